import Derived.Test.YtjagmebglhbdkaaGreatK09
namespace Go.Proofs.YtjagmebglhbdkaaGreat.MX
open Go Go.Proofs
set_option linter.unusedSimpArgs false
set_option linter.unusedVariables false
theorem b9d(key:Int){h:c9}{k:Nat}{M:List Nat}(hk:rd1 h (.pointer (some ⟨k,0,none⟩))=some (.int .i64 key))(hlt:k<h.size)(hm:k∉M):
  a6k Tryz.prog Msg.enc h M (.func (.func 209) #[] (List.toArray [.pointer (some ⟨k,0,none⟩)])) fun m=>decide (m.key=key):=by
 refine⟨_,_,rfl,a1a,fun x h' hf=> ?_⟩
 have h1:rd1 h' (.pointer (some ⟨k,0,none⟩))=some (.int .i64 key):=by rw[hf.rd1 hlt hm];exact hk
 have:=hf.size
 refine EN i209.eq_1 fun K hK=> ?_
 refine Xa ?_
 refine Xd h1 @Msg.enc.eq_1 @Y8 ?_
 refine hK _ _ ⟨rfl,by(exact FRR)⟩
theorem c1U(rma kind:Int){h:c9}{k1 k2:Nat}{M:List Nat}(hk1:rd1 h (.pointer (some ⟨k1,0,none⟩))=some (.int .i64 rma))(hk2:rd1 h (.pointer (some ⟨k2,0,none⟩))=some (.int .i64 kind))(hlt1:k1<h.size)(hlt2:k2<h.size)(hm1:k1∉M)(hm2:k2∉M):
  a6k Tryz.prog Msg.enc h M (.func (.func 201) #[] (List.toArray [.pointer (some ⟨k1,0,none⟩),.pointer (some ⟨k2,0,none⟩)])) fun m=>decide (m.rma=rma∧m.kind=kind):=by
 refine⟨_,_,rfl,a1r,fun x h' hf=> ?_⟩
 have h1:rd1 h' (.pointer (some ⟨k1,0,none⟩))=some (.int .i64 rma):=by rw[hf.rd1 hlt1 hm1];exact hk1
 have h2:rd1 h' (.pointer (some ⟨k2,0,none⟩))=some (.int .i64 kind):=by rw[hf.rd1 hlt2 hm2];exact hk2
 have:=hf.size
 refine EN i201.eq_1 fun K hK=> ?_
 refine Xa ?_
 refine Xd h1 h2 @Msg.enc.eq_1 ?_
 (generalize hg:dcd _=bb;cases bb<;>(first|replace hg:=y7 hg|replace hg:=s7 hg)<;>(try simp(disch:=first|omega|assumption|((repeat' (first|exact Fr.refl _ _|assumption|(refine Fr.via (by assumption) ?_ (by intro i hi hm;first|exact hm|exact l_l _ hm|exact absurd hm l_d|(simp only[l_e,l_y,l_d,or_false]at hm⊢;omega)))|refine Fr.push ?_ _|(refine Fr.setM ?_ ?_ _; · first|exact l_n|(simp only[l_e,true_or,or_true];done))|(refine Fr.setN ?_ ?_ _; · first|omega|(simp only[l_c,l_b];omega))));done)|(simp only[l_c,l_b,l_f,l_g,l_e,l_d,or_false,false_or,U9,not_or];done)|(simp only[l_c,l_b,l_f,l_g,l_e,l_d,or_false,false_or,not_or];omega)) only[go_sem,↓wBk,↓eA,↓eB,↓eS,sT,simprocAttr,h1,h2,Msg.enc]))
 ·refine hK _ _ ⟨by simp[hg],by(exact FRR)⟩
 ·refine hK _ _ ⟨by simp[hg,Y8],by(exact FRR)⟩
theorem b7M(key:Int){base:Nat}{h:c9}{o:Nat}{s:Value}{next:Int}{l:List Msg}(hi:a0G base h o s next l)(hl:l.length<1000000):
  d8 Tryz.prog 154 [.pointer (some ⟨o,0,none⟩),.int .i64 key] h fun v h'=>
   ((K5 (fun m:Msg=>decide (m.key=key)) l 0= -1∧v= .tuple #[.agg Msg.zero.enc.toArray,.bool false]∧a0G base h' o s next l)∨
    ∃i:Nat,∃hil:i<l.length,K5 (fun m:Msg=>decide (m.key=key)) l 0=i∧v= .tuple #[.agg l[i].enc.toArray,.bool true]∧∃s',a0G base h' o s' next (l.take i++l.drop (i+1))∧∀b∈i9 s',b∈i9 s)∧Fr h h' (o::i9 s):=by
 have hlt:=hi.lt
 have hap:=hi.apart
 have hge:=hi.ge
 have hown:=hi.own
 have hs1:h.size∉i9 s:=fun hm=>by have:=(hi.own.lt _ hm).1;omega
 have hs2:h.size+1∉i9 s:=fun hm=>by have:=(hi.own.lt _ hm).1;omega
 obtain⟨A,c,rfl⟩:=hi.own.slice
 refine EN i154.eq_1 fun K hK=> ?_
 (refine Xa ?_;try exact⟨⟩)
 simp(disch:=first|omega|assumption|(simp only[l_c,l_b,l_f,l_g,l_e,l_d,or_false,false_or,U9,not_or];done)|(simp only[l_c,l_b,l_f,l_g,l_e,l_d,or_false,false_or,not_or];omega)) only[go_sem,↓wBk,↓eA,↓eB,↓eS,sT,simprocAttr,j3 hi.blk]
 have ho1:Own Msg.enc 6 128 base ((h.push (.cells #[Value.int IntKind.i64 key] 3)).push (.cells #[Value.int IntKind.i64 0,Value.int IntKind.i64 0,Value.int IntKind.i64 0,Value.int IntKind.i64 0,Value.int IntKind.i64 0,Value.int IntKind.i64 0] 128)) (.slice A l.length c) l:=hi.own.fr (M:=[]) (by(exact FRR)) (fun _ _=>by simp)
 refine cI (U0 (sz:=6) (p:=fun m:Msg=>decide (m.key=key)) i208.2 (ho1.arr enc_len).1 rfl (by omega) (b9d key (k:=h.size) (M:=[]) ?_ ?_ ?_)) ?_
 ·(refine Xa ?_;try exact⟨⟩)
 ·simp;omega
 ·simp
 rintro _ h1 ⟨rfl,hf1⟩
 have hsz1:=hf1.size
 simp only[l_c]at hsz1
 have hi1:a0G base h1 o (.slice A l.length c) next l:=(hi.fr (M:=[]) (by(exact FRR)) (fun _ _=>by simp)).fr hf1 (fun _ _=>by simp)
 rcases R6 (fun m:Msg=>decide (m.key=key)) l 0 with⟨hx,hall⟩|⟨i,hx,hil,hbef,hat⟩
 ·have hx':K5 (fun m:Msg=>decide (m.key=key)) l 0= -1:=hx
  rw[hx']
  (refine Xb @hf1.blk ?_;try exact⟨⟩)
  refine hK _ _ ⟨.inl ⟨hx',rfl,?_⟩,?_⟩
  ·exact hi1.fr (M:=[h.size+1]) (by(exact FRR)) (fun b hb=>by
    rcases hb with rfl|hb
    ·simp;omega
    ·have:=(hown.lt b hb).1
     simp;omega)
  ·(exact FRR)
 ·have hx':K5 (fun m:Msg=>decide (m.key=key)) l 0=(i:Int):=by simpa using hx
  rw[hx']
  obtain⟨b,off,rfl,hr⟩:=(hi1.own.arr enc_len).1.at hil
  simp(disch:=first|omega|assumption|(simp only[l_c,l_b,l_f,l_g,l_e,l_d,or_false,false_or,U9,not_or];done)|(simp only[l_c,l_b,l_f,l_g,l_e,l_d,or_false,false_or,not_or];omega)) only[go_sem,↓wBk,↓eA,↓eB,↓eS,sT,simprocAttr,j3 hi1.blk,hr,Msg.enc]
  rw[show(i:Int)+1=((i+1:Nat):Int)from rfl]
  have hnb:o≠b:=fun e=>hap (by simp[i9,e])
  have hbn:b≠h.size∧b≠h.size+1:=⟨fun e=>hs1 (by simp[i9,e]),fun e=>hs2 (by simp[i9,e])⟩
  have hltb:=(hi1.own.lt b (by simp[i9])).1
  have ho2:Own Msg.enc 6 128 base _ (.slice (some ⟨b,off,none⟩) l.length c) l:=(hi1.own.fr (h':=h1.push (.cells #[Value.int IntKind.i64 0,Value.int IntKind.i64 0,Value.int IntKind.i64 0,Value.int IntKind.i64 0,Value.int IntKind.i64 0,Value.int IntKind.i64 0] 128)) (M:=[]) (by(exact FRR)) (fun _ _=>by simp))
  refine cI (b6A (sz:=6) (T:=128) (bytes:=48) (i:=i) (j:=i+1) i210.2 enc_len (by omega) enc_plain rfl b4r (hi1.own.keep (fun b' hb'=> ?_)) (by omega) (by omega) (by omega)) ?_
  ·simp only[i9,U1]at hb'
   subst hb'
   (refine Xa ?_;try exact⟨⟩)
  rintro v' h2 ⟨ho3,hf2,hb2⟩
  have hsz2:=hf2.size
  simp only[l_c,l_b]at hsz2
  obtain⟨A',c',rfl⟩:=ho3.slice
  have hob:o∉i9 (.slice (some ⟨b,off,none⟩) l.length c):=hap
  have hnn:h.size+1∉i9 (.slice (some ⟨b,off,none⟩) l.length c):=hs2
  have hn1:h1.size∉i9 (.slice (some ⟨b,off,none⟩) l.length c):=fun hm=>by simp only[i9,U1]at hm;omega
  (refine Xe @hf2.blk @hf2.rdN @hi1.blk @hf1.blk ?_;try exact⟨⟩)
  have hsub:∀q∈i9 (.slice A' (l.take i++l.drop (i+1)).length c'),q=b:=fun q hq=>by simpa[i9]using hb2 q hq
  refine hK _ _ ⟨.inr ⟨i,hil,hx',rfl,_,⟨?_,hge,(ho3.set (fun hm=>hnb (hsub _ hm))).set (fun hm=>hbn.2 (hsub _ hm).symm),fun hm=>hnb (hsub _ hm)⟩,hb2⟩,?_⟩
  ·(refine Xa ?_;try exact⟨⟩)
  ·(exact FRR)
theorem c1l(rma kind:Int){base:Nat}{h:c9}{o:Nat}{s:Value}{next:Int}{l:List Msg}(hi:a0G base h o s next l)(hl:l.length<1000000):
  d8 Tryz.prog 143 [.pointer (some ⟨o,0,none⟩),.int .i64 rma,.int .i64 kind] h fun v h'=>
   v= .int .i64 (l.length-(l.filter fun m=> !decide (m.rma=rma∧m.kind=kind)).length)∧(∃s',a0G base h' o s' next (l.filter fun m=> !decide (m.rma=rma∧m.kind=kind))∧∀b∈i9 s',b∈i9 s)∧Fr h h' (o::i9 s):=by
 have hlt:=hi.lt
 have hap:=hi.apart
 have hge:=hi.ge
 have hs1:h.size∉i9 s:=fun hm=>by have:=(hi.own.lt _ hm).1;omega
 have hs2:h.size+1∉i9 s:=fun hm=>by have:=(hi.own.lt _ hm).1;omega
 have hown:=hi.own
 obtain⟨A,c,rfl⟩:=hi.own.slice
 refine EN i143.eq_1 fun K hK=> ?_
 (refine Xa ?_;try exact⟨⟩)
 simp(disch:=first|omega|assumption|(simp only[l_c,l_b,l_f,l_g,l_e,l_d,or_false,false_or,U9,not_or];done)|(simp only[l_c,l_b,l_f,l_g,l_e,l_d,or_false,false_or,not_or];omega)) only[go_sem,↓wBk,↓eA,↓eB,↓eS,sT,simprocAttr,j3 hi.blk]
 have hle:(l.filter fun m=> !decide (m.rma=rma∧m.kind=kind)).length≤l.length:=List.length_filter_le _ _
 refine cI (a8r (sz:=6) (T:=128) (p:=fun m:Msg=>decide (m.rma=rma∧m.kind=kind)) i200.2 i208.2 enc_len (by omega) enc_plain rfl b4r hi.own.push.push (by omega) (c1U rma kind (k1:=h.size) (k2:=h.size+1) ?_ ?_ ?_ ?_ hs1 hs2)) ?_
 ·(refine Xa ?_;try exact⟨⟩)
 ·(refine Xa ?_;try exact⟨⟩)
 ·simp;omega
 ·simp
 rintro v h1 ⟨ho1,hf1,hb1⟩
 have hsz1:=hf1.size
 simp only[l_c]at hsz1
 obtain⟨A',c',rfl⟩:=ho1.slice
 have hob:o∉i9 (.slice A' (l.filter fun m=> !decide (m.rma=rma∧m.kind=kind)).length c'):=fun hm=>hap (hb1 _ hm)
 (refine Xc @hf1.blk @hi.blk ?_;try exact⟨⟩)
 refine hK _ _ ⟨rfl,⟨_,⟨?_,hge,ho1.set hob,hob⟩,hb1⟩,?_⟩
 ·(refine Xa ?_;try exact⟨⟩)
 ·(exact FRR)
theorem b0M(rma:Int)(l:List Msg)(i:Nat)(hi:i<l.length):l8 rma (l.take (i+1))=l8 rma (l.take i)+if l[i].rma=rma∧l[i].kind≠1 then 1 else 0:=by
 unfold l8
 rw[l_t hi,List.filter_append]
 by_cases h:l[i].rma=rma∧l[i].kind≠1<;>simp[List.filter_cons,h]
theorem b4k(rma:Int)(l:List Msg):l8 rma l≤l.length:=List.length_filter_le _ _
theorem b7Y(rma:Int){base:Nat}{h:c9}{o:Nat}{s:Value}{next:Int}{l:List Msg}(hi:a0G base h o s next l)(hl:l.length<1000000):
  d8 Tryz.prog 77 [.pointer (some ⟨o,0,none⟩),.int .i64 rma] h fun v h'=>v= .int .i64 (l8 rma l)∧Fr h h' []:=by
 have hlt:=hi.lt
 have ha0:=hi.own
 obtain⟨A,c,rfl⟩:=hi.own.slice
 have ha:=(hi.own.arr enc_len).1
 refine EN i77.eq_1 fun K hK=> ?_
 refine Xa ?_
 simp(disch:=first|omega|assumption|(simp only[l_c,l_b,l_f,l_g,l_e,l_d,or_false,false_or,U9,not_or];done)|(simp only[l_c,l_b,l_f,l_g,l_e,l_d,or_false,false_or,not_or];omega)) only[go_sem,↓wBk,↓eA,↓eB,↓eS,sT,simprocAttr,j3 hi.blk]
 refine lI (fun ρ h'=>Fr h h' []∧ρ 1= .int .i64 rma∧ρ 13= .slice A l.length c∧ρ 14= .int .i64 l.length∧∃i:Nat,ρ 15= .int .i64 i∧i≤l.length∧ρ 5= .int .i64 (l8 rma (l.take i))) (fun ρ _=>l.length-(iv (ρ 15)).toNat) ?_ ?_
 ·refine Xa ?_
  exact⟨Fr.refl _ _,0,rfl,Nat.zero_le _,rfl⟩
 ·rintro ρ h' J hJ ⟨hf,e1,e13,e14,i,e15,hil,e5⟩
  have hszh:=hf.size
  refine Xc e15 e14 ?_
  (generalize hg:dcd _=bb;cases bb<;>(first|replace hg:=y7 hg|replace hg:=s7 hg)<;>(try simp(disch:=first|omega|assumption|((repeat' (first|exact Fr.refl _ _|assumption|(refine Fr.via (by assumption) ?_ (by intro i hi hm;first|exact hm|exact l_l _ hm|exact absurd hm l_d|(simp only[l_e,l_y,l_d,or_false]at hm⊢;omega)))|refine Fr.push ?_ _|(refine Fr.setM ?_ ?_ _; · first|exact l_n|(simp only[l_e,true_or,or_true];done))|(refine Fr.setN ?_ ?_ _; · first|omega|(simp only[l_c,l_b];omega))));done)|(simp only[l_c,l_b,l_f,l_g,l_e,l_d,or_false,false_or,U9,not_or];done)|(simp only[l_c,l_b,l_f,l_g,l_e,l_d,or_false,false_or,not_or];omega)) only[go_sem,↓wBk,↓eA,↓eB,↓eS,sT,simprocAttr,e1,e13,e5]))
  ·have hi':i=l.length:=by omega
   subst hi'
   refine hK _ _ ⟨?_,hf⟩
   rw[C9]
  ·have hlt':i<l.length:=by omega
   obtain⟨b,off,rfl,hr⟩:=(ha.fr hf (fun _ _ _=>by simp)).at hlt'
   have hle:=b4k rma (l.take i)
   rw[x4]at hle
   have hsucc:=b0M rma l i hlt'
   refine Xf e1 e13 e15 hr @Msg.enc.eq_1 ?_
   (generalize hg:dcd _=bb;cases bb<;>(first|replace hg:=y7 hg|replace hg:=s7 hg)<;>(try simp(disch:=first|omega|assumption|((repeat' (first|exact Fr.refl _ _|assumption|(refine Fr.via (by assumption) ?_ (by intro i hi hm;first|exact hm|exact l_l _ hm|exact absurd hm l_d|(simp only[l_e,l_y,l_d,or_false]at hm⊢;omega)))|refine Fr.push ?_ _|(refine Fr.setM ?_ ?_ _; · first|exact l_n|(simp only[l_e,true_or,or_true];done))|(refine Fr.setN ?_ ?_ _; · first|omega|(simp only[l_c,l_b];omega))));done)|(simp only[l_c,l_b,l_f,l_g,l_e,l_d,or_false,false_or,U9,not_or];done)|(simp only[l_c,l_b,l_f,l_g,l_e,l_d,or_false,false_or,not_or];omega)) only[go_sem,↓wBk,↓eA,↓eB,↓eS,sT,simprocAttr,e1,e13,e14,e15,e5]))
   ·refine hJ _ _ ?_ ?_
    ·refine Xe e1 e13 e14 e5 ?_
     exact⟨by(exact FRR),i+1,rfl,by omega,by rw[hsucc,if_neg (by simp[hg])];rfl⟩
    ·refine Xb e15 ?_
     omega
   ·have hg1:=hg
    (generalize hg:dcd _=bb;cases bb<;>(first|replace hg:=y7 hg|replace hg:=s7 hg)<;>(try simp(disch:=first|omega|assumption|((repeat' (first|exact Fr.refl _ _|assumption|(refine Fr.via (by assumption) ?_ (by intro i hi hm;first|exact hm|exact l_l _ hm|exact absurd hm l_d|(simp only[l_e,l_y,l_d,or_false]at hm⊢;omega)))|refine Fr.push ?_ _|(refine Fr.setM ?_ ?_ _; · first|exact l_n|(simp only[l_e,true_or,or_true];done))|(refine Fr.setN ?_ ?_ _; · first|omega|(simp only[l_c,l_b];omega))));done)|(simp only[l_c,l_b,l_f,l_g,l_e,l_d,or_false,false_or,U9,not_or];done)|(simp only[l_c,l_b,l_f,l_g,l_e,l_d,or_false,false_or,not_or];omega)) only[go_sem,↓wBk,↓eA,↓eB,↓eS,sT,simprocAttr,e1,e13,e14,e15,e5]))
    ·refine hJ _ _ ?_ ?_
     ·refine Xe e1 e13 e14 e5 ?_
      exact⟨by(exact FRR),i+1,rfl,by omega,by rw[hsucc,if_pos ⟨hg1,hg⟩];rfl⟩
     ·refine Xb e15 ?_
      omega
    ·refine hJ _ _ ?_ ?_
     ·refine Xe e1 e13 e14 e5 ?_
      exact⟨by(exact FRR),i+1,rfl,by omega,by rw[hsucc,if_neg (by simp[hg])];rfl⟩
     ·refine Xb e15 ?_
      omega
def Msg.bump(now:Int)(m:Msg):Msg:=⟨m.key,m.kind,m.rma,m.value,m.tries+1,now+a6o (m.tries+1)⟩
def K9(now:Int)(m:Msg):List Msg:=if m.due>now then []else if m.kind=1∧m.tries≥5 then []else [m.bump now]
def F7(now:Int)(m:Msg):List Msg:=if m.due>now then []else if m.kind=1∧m.tries≥5 then [m]else []
def K6(now:Int)(m:Msg):List Msg:=if m.due>now then [m]else if m.kind=1∧m.tries≥5 then []else [m.bump now]
def A9(now:Int)(l:List Msg):List Msg:=l.flatMap (K9 now)
def x5(now:Int)(l:List Msg):List Msg:=l.flatMap (F7 now)
def y9(now:Int)(l:List Msg):List Msg:=l.flatMap (K6 now)
theorem P3{α β:Type}(f:α→List β)(l:List α)(i:Nat)(hi:i<l.length):(l.take (i+1)).flatMap f=(l.take i).flatMap f++f l[i]:=by
 rw[l_t hi,a1p];simp
theorem F6{α β:Type}(f:α→List β)(hf:∀x,(f x).length≤1):∀l:List α,(l.flatMap f).length≤l.length
 | []=>x9 _
 |x::l=>by have:=hf x;have:=F6 f hf l;simp only[X9,l_m,l_f];omega
theorem a4T(now:Int)(m:Msg):(K9 now m).length≤1:=by unfold K9;(repeat' split)<;>simp
theorem a3b(now:Int)(m:Msg):(F7 now m).length≤1:=by unfold F7;(repeat' split)<;>simp
theorem a7y(now:Int)(m:Msg):(K6 now m).length≤1:=by unfold K6;(repeat' split)<;>simp
theorem b0L(t:Int):0≤a6o t∧a6o t≤8:=by unfold a6o;(repeat' split)<;>omega
structure Tri(T base:Nat)(h:c9)(a b c:Value)(x y z:List Msg):Prop where
 oa:Own Msg.enc 6 T base h a x
 ob:Own Msg.enc 6 T base h b y
 oc:Own Msg.enc 6 T base h c z
 ab:∀i∈i9 a,i∉i9 b
 ac:∀i∈i9 a,i∉i9 c
 bc:∀i∈i9 b,i∉i9 c
theorem Tri.set{T base:Nat}{h:c9}{a b c:Value}{x y z:List Msg}(t:Tri T base h a b c x y z){k:Nat}{o:Obj}(hk:k∉i9 a∧k∉i9 b∧k∉i9 c):Tri T base (h.setIfInBounds k o) a b c x y z:=
 ⟨t.oa.set hk.1,t.ob.set hk.2.1,t.oc.set hk.2.2,t.ab,t.ac,t.bc⟩
theorem Tri.push{T base:Nat}{h:c9}{a b c:Value}{x y z:List Msg}(t:Tri T base h a b c x y z){o:Obj}:Tri T base (h.push o) a b c x y z:=
 ⟨t.oa.push,t.ob.push,t.oc.push,t.ab,t.ac,t.bc⟩
theorem Tri.new{T base:Nat}{h:c9}{a b c:Value}{x y z:List Msg}(t:Tri T base h a b c x y z){k:Nat}(hk:h.size≤k):k∉i9 a∧k∉i9 b∧k∉i9 c:=
 ⟨fun hm=>by have:=(t.oa.lt _ hm).1;omega,fun hm=>by have:=(t.ob.lt _ hm).1;omega,fun hm=>by have:=(t.oc.lt _ hm).1;omega⟩
theorem Tri.appA{T base:Nat}{h h':c9}{a b c a':Value}{x y z x':List Msg}(t:Tri T base h a b c x y z)(ho:Own Msg.enc 6 T base h' a' x')(hf:Fr h h' (i9 a))(hb:∀i∈i9 a',i∈i9 a∨h.size≤i):Tri T base h' a' b c x' y z:=
 ⟨ho,t.ob.fr hf (fun i hi ha=>t.ab i ha hi),t.oc.fr hf (fun i hi ha=>t.ac i ha hi),
  fun i hi h2=>(hb i hi).elim (fun h1=>t.ab i h1 h2) (fun h1=>(t.new h1).2.1 h2),
  fun i hi h2=>(hb i hi).elim (fun h1=>t.ac i h1 h2) (fun h1=>(t.new h1).2.2 h2),t.bc⟩
theorem Tri.appB{T base:Nat}{h h':c9}{a b c b':Value}{x y z y':List Msg}(t:Tri T base h a b c x y z)(ho:Own Msg.enc 6 T base h' b' y')(hf:Fr h h' (i9 b))(hb:∀i∈i9 b',i∈i9 b∨h.size≤i):Tri T base h' a b' c x y' z:=
 ⟨t.oa.fr hf (fun i hi hb=>t.ab i hi hb),ho,t.oc.fr hf (fun i hi h2=>t.bc i h2 hi),
  fun i h2 hi=>(hb i hi).elim (fun h1=>t.ab i h2 h1) (fun h1=>(t.new h1).1 h2),t.ac,
  fun i hi h2=>(hb i hi).elim (fun h1=>t.bc i h1 h2) (fun h1=>(t.new h1).2.2 h2)⟩
theorem Tri.appC{T base:Nat}{h h':c9}{a b c c':Value}{x y z z':List Msg}(t:Tri T base h a b c x y z)(ho:Own Msg.enc 6 T base h' c' z')(hf:Fr h h' (i9 c))(hb:∀i∈i9 c',i∈i9 c∨h.size≤i):Tri T base h' a b c' x y z':=
 ⟨t.oa.fr hf (fun i hi hc=>t.ac i hi hc),t.ob.fr hf (fun i hi hc=>t.bc i hi hc),ho,t.ab,
  fun i h2 hi=>(hb i hi).elim (fun h1=>t.ac i h2 h1) (fun h1=>(t.new h1).1 h2),
  fun i h2 hi=>(hb i hi).elim (fun h1=>t.bc i h2 h1) (fun h1=>(t.new h1).2.1 h2)⟩
theorem a5o{h h' h'':c9}{M:List Nat}(hf:Fr h h' [])(hf':Fr h' h'' M)(hm:∀b∈M,h.size≤b):Fr h h'' []:=by
 refine⟨Z0 hf.size hf'.size,fun b hb _=> ?_⟩
 rw[hf'.same b (Nat.lt_of_lt_of_le hb hf.size) (fun hb'=>by have:=hm b hb';omega),hf.same b hb (by simp)]
set_option maxHeartbeats 2000000 in
theorem b5M(now:Int){base:Nat}{h:c9}{o:Nat}{s:Value}{next:Int}{l:List Msg}(hi:a0G base h o s next l)(hl:l.length<1000000)
  (hnow: -4398046511104≤now∧now≤4398046511104) (ht:∀m∈l,0≤m.tries∧m.tries<1000000):
  d8 Tryz.prog 153 [.pointer (some ⟨o,0,none⟩),.int .i64 now] h fun v h'=>∃s1 s2 s3,v= .tuple #[s1,s2]∧a0G base h' o s3 next (y9 now l)∧
   Own Msg.enc 6 128 h.size h' s1 (A9 now l)∧Own Msg.enc 6 128 h.size h' s2 (x5 now l)∧Fr h h' [o]∧(∀b∈i9 s3,h.size≤b)∧(∀i∈i9 s1,i∉i9 s2)∧(∀i∈i9 s1,i∉i9 s3)∧∀i∈i9 s2,i∉i9 s3:=by
 have hlt:=hi.lt
 have hge:=hi.ge
 obtain⟨A,c,rfl⟩:=hi.own.slice
 have ha:=(hi.own.arr enc_len).1
 refine EN i153.eq_1 fun K hK=> ?_
 (refine Xa ?_;try exact⟨⟩)
 simp(disch:=first|omega|assumption|(simp only[l_c,l_b,l_f,l_g,l_e,l_d,or_false,false_or,U9,not_or];done)|(simp only[l_c,l_b,l_f,l_g,l_e,l_d,or_false,false_or,not_or];omega)) only[go_sem,↓wBk,↓eA,↓eB,↓eS,sT,simprocAttr,j3 hi.blk]
 refine lI (fun ρ h'=>Fr h h' []∧ρ 0= .pointer (some ⟨o,0,none⟩)∧ρ 1= .int .i64 now∧ρ 16= .slice A l.length c∧ρ 17= .int .i64 l.length∧∃i:Nat,ρ 18= .int .i64 i∧i≤l.length∧
  Tri 128 h.size h' (ρ 6) (ρ 7) (ρ 8) (A9 now (l.take i)) (x5 now (l.take i)) (y9 now (l.take i))) (fun ρ _=>l.length-(iv (ρ 18)).toNat) ?_ ?_
 ·(refine Xa ?_;try exact⟨⟩)
  exact⟨Fr.refl _ _,0,rfl,Nat.zero_le _,Own.nil,Own.nil,Own.nil,by simp[i9],by simp[i9],by simp[i9]⟩
 ·rintro ρ h' J hJ ⟨hf,e0,e1,e16,e17,i,e18,hil,tri⟩
  have hszh:=hf.size
  have hblk:blk h' o=_:=(hf.blk hlt (by simp)).trans hi.blk
  have hlt':o<h'.size:=F5 hblk
  (refine Xc e18 e17 ?_;try exact⟨⟩)
  (generalize hg:dcd _=bb;cases bb<;>(first|replace hg:=y7 hg|replace hg:=s7 hg)<;>(try simp(disch:=first|omega|assumption|((repeat' (first|exact Fr.refl _ _|assumption|(refine Fr.via (by assumption) ?_ (by intro i hi hm;first|exact hm|exact l_l _ hm|exact absurd hm l_d|(simp only[l_e,l_y,l_d,or_false]at hm⊢;omega)))|refine Fr.push ?_ _|(refine Fr.setM ?_ ?_ _; · first|exact l_n|(simp only[l_e,true_or,or_true];done))|(refine Fr.setN ?_ ?_ _; · first|omega|(simp only[l_c,l_b];omega))));done)|(simp only[l_c,l_b,l_f,l_g,l_e,l_d,or_false,false_or,U9,not_or];done)|(simp only[l_c,l_b,l_f,l_g,l_e,l_d,or_false,false_or,not_or];omega)) only[go_sem,↓wBk,↓eA,↓eB,↓eS,sT,simprocAttr,e0,e1,e16]))
  ·have hi':i=l.length:=by omega
   subst hi'
   simp only[C9]at tri
   have h8:∀b∈i9 (ρ 8),h.size≤b:=fun b hb=>(tri.oc.lt b hb).2
   have ho:o∉i9 (ρ 6)∧o∉i9 (ρ 7)∧o∉i9 (ρ 8):=⟨fun hm=>by have:=(tri.oa.lt _ hm).2;omega,fun hm=>by have:=(tri.ob.lt _ hm).2;omega,fun hm=>by have:=(tri.oc.lt _ hm).2;omega⟩
   obtain⟨A8,c8,e8⟩:=tri.oc.slice
   (refine Xc e8 hblk ?_;try exact⟨⟩)
   have tri':=tri.set (o:= .cells #[.int .i64 next,ρ 8] 172 (0,0)) ho
   rw[e8]at tri'
   refine hK _ _ ⟨_,_,_,rfl,⟨?_,hge,tri'.oc.rebase fun b hb=> ?_,?_⟩,tri'.oa,tri'.ob,by(exact FRR),?_,tri'.ab,tri'.ac,tri'.bc⟩
   ·(refine Xa ?_;try exact⟨⟩)
   ·have:=h8 b (e8▸hb);omega
   ·exact e8▸ho.2.2
   ·exact e8▸h8
  ·have hil':i<l.length:=by omega
   obtain⟨b,off,rfl,hr⟩:=(ha.fr hf (fun _ _ _=>by simp)).at hil'
   have htr:=ht l[i] (l_v hil')
   (refine Xf e1 e16 e18 hr @Msg.enc.eq_1 ?_;try exact⟨⟩)
   have s1:A9 now (l.take (i+1))=A9 now (l.take i)++K9 now l[i]:=P3 _ l i hil'
   have s2:x5 now (l.take (i+1))=x5 now (l.take i)++F7 now l[i]:=P3 _ l i hil'
   have s3:y9 now (l.take (i+1))=y9 now (l.take i)++K6 now l[i]:=P3 _ l i hil'
   have n1:(A9 now (l.take i)).length≤_:=F6 (K9 now) (a4T now) (l.take i)
   have n2:(x5 now (l.take i)).length≤_:=F6 (F7 now) (a3b now) (l.take i)
   have n3:(y9 now (l.take i)).length≤_:=F6 (K6 now) (a7y now) (l.take i)
   rw[x4]at n1 n2 n3
   refine cD (fun hg1=> ?_) (fun hg1=> ?_)
   ·have g1:K9 now l[i]=[]:=by simp[K9,hg1]
    have g2:F7 now l[i]=[]:=by simp[F7,hg1]
    have g3:K6 now l[i]=[l[i]]:=by simp[K6,hg1]
    rw[g1,D9]at s1
    rw[g2,D9]at s2
    rw[g3]at s3
    (refine Xb @Msg.enc.eq_1 ?_;try exact⟨⟩)
    refine Q8 (x:=l[i]) enc_len (by omega) enc_plain rfl rfl (by simp) (tri.push.set (tri.new (x9 _))).oc (by simp;omega) (by omega) (by omega) ?_
    intro v' h'' ho' hf' hb
    have tri':=Tri.appC (tri.push.set (tri.new (x9 _))) ho' hf' hb
    have hsz:=hf'.size
    simp only[l_c,l_b]at hsz
    (refine Xf e0 e1 e16 e17 e18 ?_;try exact⟨⟩)
    refine hJ _ _ ?_ ?_
    ·(refine Xf e0 e1 e16 e17 e18 ?_;try exact⟨⟩)
     refine⟨?_,i+1,rfl,by omega,s1▸s2▸s3▸tri'⟩
     exact a5o (h':=((h'.push _).setIfInBounds _ _)) (by(exact FRR)) hf' (fun b hb=>(tri.oc.lt b hb).2)
    ·(refine Xb e18 ?_;try exact⟨⟩)
     omega
   ·(refine Xb @Msg.enc.eq_1 ?_;try exact⟨⟩)
    refine b1F (fun hk=> ?_) (fun hk=> ?_)
    ·(refine Xb @Msg.enc.eq_1 ?_;try exact⟨⟩)
     refine cD (fun h5=> ?_) (fun h5=> ?_)
     ·have g1:K9 now l[i]=[]:=by simp[K9,hg1,hk,h5]
      have g2:F7 now l[i]=[l[i]]:=by simp[F7,hg1,hk,h5]
      have g3:K6 now l[i]=[]:=by simp[K6,hg1,hk,h5]
      rw[g1,D9]at s1
      rw[g2]at s2
      rw[g3,D9]at s3
      (refine Xb @Msg.enc.eq_1 ?_;try exact⟨⟩)
      refine Q8 (x:=l[i]) enc_len (by omega) enc_plain rfl rfl (by simp) (tri.push.set (tri.new (x9 _))).ob (by simp;omega) (by omega) (by omega) ?_
      intro v' h'' ho' hf' hb
      have tri':=Tri.appB (tri.push.set (tri.new (x9 _))) ho' hf' hb
      have hsz:=hf'.size
      simp only[l_c,l_b]at hsz
      (refine Xf e0 e1 e16 e17 e18 ?_;try exact⟨⟩)
      refine hJ _ _ ?_ ?_
      ·(refine Xf e0 e1 e16 e17 e18 ?_;try exact⟨⟩)
       refine⟨?_,i+1,rfl,by omega,s1▸s2▸s3▸tri'⟩
       exact a5o (h':=((h'.push _).setIfInBounds _ _)) (by(exact FRR)) hf' (fun b hb=>(tri.ob.lt b hb).2)
      ·(refine Xb e18 ?_;try exact⟨⟩)
       omega
     ·have hn:¬(l[i].kind=1∧l[i].tries≥5):=fun hh=>h5 (by omega)
      have g1:K9 now l[i]=[l[i].bump now]:=by simp[K9,hg1,hn]
      have g2:F7 now l[i]=[]:=by simp[F7,hg1,hn]
      have g3:K6 now l[i]=[l[i].bump now]:=by simp[K6,hg1,hn]
      rw[g1]at s1
      rw[g2,D9]at s2
      rw[g3]at s3
      have hw:=b0L (l[i].tries+1)
      (refine Xc @Msg.enc.eq_1 e1 ?_;try exact⟨⟩)
      refine cI (a9V _ _ (by omega)) ?_
      rintro _ _ ⟨rfl,rfl⟩
      (refine Xc @Msg.enc.eq_1 e1 ?_;try exact⟨⟩)
      have nw:=tri.new (x9 _)
      refine Q8 (x:=l[i].bump now) enc_len (by omega) enc_plain rfl rfl (by simp) (((tri.push.set nw).set nw).set nw).oa (by simp;omega) (by omega) (by omega) ?_
      intro v' h2 ho' hf' hb
      have tri':=Tri.appA (((tri.push.set nw).set nw).set nw) ho' hf' hb
      have hsz:=hf'.size
      simp only[l_c,l_b]at hsz
      have hf2:Fr h h2 []:=a5o (h':=((((h'.push _).setIfInBounds _ _).setIfInBounds _ _).setIfInBounds _ _)) (by(exact FRR)) hf' (fun b hb=>(tri.oa.lt b hb).2)
      have hb2:blk h2 h'.size=some ((l[i].bump now).enc,128,(0,0)):=by
       rw[hf'.blk (by simp) nw.1]
       (refine Xc @Msg.enc.eq_1 @Msg.bump.eq_1 ?_;try exact⟨⟩)
      have hr2:rdN h2 h'.size 0 6=some (l[i].bump now).enc:=by rw[v8 hb2 (by simp[enc_len])];rfl
      clear hf'
      (refine Xi e0 e1 e16 e17 e18 hr2 @Msg.enc.eq_1 @Msg.bump.eq_1 ?_;try exact⟨⟩)
      refine Q8 (bytes:=48) (x:=l[i].bump now) enc_len (by omega) enc_plain rfl rfl rfl tri'.oc (by omega) (by omega) (by omega) ?_
      intro v'' h3 ho3 hf3 hb3
      have tri3:=Tri.appC tri' ho3 hf3 hb3
      have hsz3:=hf3.size
      (refine Xf e0 e1 e16 e17 e18 ?_;try exact⟨⟩)
      refine hJ _ _ ?_ ?_
      ·(refine Xf e0 e1 e16 e17 e18 ?_;try exact⟨⟩)
       exact⟨a5o hf2 hf3 (fun b hb=>(tri'.oc.lt b hb).2),i+1,rfl,by omega,s1▸s2▸s3▸tri3⟩
      ·(refine Xb e18 ?_;try exact⟨⟩)
       omega
    ·have hn:¬(l[i].kind=1∧l[i].tries≥5):=fun hh=>hk hh.1
     have g1:K9 now l[i]=[l[i].bump now]:=by simp[K9,hg1,hn]
     have g2:F7 now l[i]=[]:=by simp[F7,hg1,hn]
     have g3:K6 now l[i]=[l[i].bump now]:=by simp[K6,hg1,hn]
     rw[g1]at s1
     rw[g2,D9]at s2
     rw[g3]at s3
     have hw:=b0L (l[i].tries+1)
     (refine Xc @Msg.enc.eq_1 e1 ?_;try exact⟨⟩)
     refine cI (a9V _ _ (by omega)) ?_
     rintro _ _ ⟨rfl,rfl⟩
     (refine Xc @Msg.enc.eq_1 e1 ?_;try exact⟨⟩)
     have nw:=tri.new (x9 _)
     refine Q8 (x:=l[i].bump now) enc_len (by omega) enc_plain rfl rfl (by simp) (((tri.push.set nw).set nw).set nw).oa (by simp;omega) (by omega) (by omega) ?_
     intro v' h2 ho' hf' hb
     have tri':=Tri.appA (((tri.push.set nw).set nw).set nw) ho' hf' hb
     have hsz:=hf'.size
     simp only[l_c,l_b]at hsz
     have hf2:Fr h h2 []:=a5o (h':=((((h'.push _).setIfInBounds _ _).setIfInBounds _ _).setIfInBounds _ _)) (by(exact FRR)) hf' (fun b hb=>(tri.oa.lt b hb).2)
     have hb2:blk h2 h'.size=some ((l[i].bump now).enc,128,(0,0)):=by
      rw[hf'.blk (by simp) nw.1]
      (refine Xc @Msg.enc.eq_1 @Msg.bump.eq_1 ?_;try exact⟨⟩)
     have hr2:rdN h2 h'.size 0 6=some (l[i].bump now).enc:=by rw[v8 hb2 (by simp[enc_len])];rfl
     clear hf'
     (refine Xi e0 e1 e16 e17 e18 hr2 @Msg.enc.eq_1 @Msg.bump.eq_1 ?_;try exact⟨⟩)
     refine Q8 (bytes:=48) (x:=l[i].bump now) enc_len (by omega) enc_plain rfl rfl rfl tri'.oc (by omega) (by omega) (by omega) ?_
     intro v'' h3 ho3 hf3 hb3
     have tri3:=Tri.appC tri' ho3 hf3 hb3
     have hsz3:=hf3.size
     (refine Xf e0 e1 e16 e17 e18 ?_;try exact⟨⟩)
     refine hJ _ _ ?_ ?_
     ·(refine Xf e0 e1 e16 e17 e18 ?_;try exact⟨⟩)
      exact⟨a5o hf2 hf3 (fun b hb=>(tri'.oc.lt b hb).2),i+1,rfl,by omega,s1▸s2▸s3▸tri3⟩
     ·(refine Xb e18 ?_;try exact⟨⟩)
      omega
end Go.Proofs.YtjagmebglhbdkaaGreat.MX
