import Derived.Test.YtjagmebglhbdkaaGreatK07
import Derived.Test.YtjagmebglhbdkaaGreatIR
namespace Go.Proofs.YtjagmebglhbdkaaGreat.MX
open Go Go.Proofs
set_option linter.unusedSimpArgs false
set_option linter.unusedVariables false
theorem c1t(h:c9):d8 Tryz.prog 41 [] h fun v h'=>∃o,v= .pointer (some ⟨o,0,none⟩)∧h.size≤o∧o<h'.size∧blk h' o=some ([.int .i64 1,.slice none 0 0],172,(0,0))∧Fr h h' []:=by
 refine EN i41.eq_1 fun K hK=> ?_
 refine Xa ?_
 exact hK _ _ ⟨_,rfl,x9 _,by simp,C7 rfl,by(exact FRR)⟩
def a6o(t:Int):Int:=if t<1 then 0 else if t≤1 then 1 else if t≤2 then 2 else if t≤3 then 4 else 8
theorem a9V(t:Int)(h:c9)(ht:t<9223372036854775808):d8 Tryz.prog 207 [.int .i64 t] h fun v h'=>v= .int .i64 (a6o t)∧h'=h:=by
 refine EN i207.eq_1 fun K hK=> ?_
 refine Xa ?_
 refine cD (fun hc=> ?_) (fun hc=> ?_)
 ·refine Xa ?_
  exact hK _ _ ⟨by rw[a6o,if_pos hc],rfl⟩
 ·refine Xa ?_
  refine lI (fun ρ h'=>h'=h∧ρ 0= .int .i64 t∧∃k n:Int,ρ 3= .int .i64 n∧ρ 4= .int .i64 k∧k≤t∧(k=1∧n=1∨k=2∧n=2∨k=3∧n=4∨k=4∧n=8)) (fun ρ _=>(5-iv (ρ 4)).toNat) ?_ ?_
  ·refine Xa ?_
   exact⟨1,1,rfl,rfl,by omega,by omega⟩
  ·rintro ρ _ J hJ ⟨rfl,e0,k,n,e3,e4,hk,hkn⟩
   refine Xd e0 e3 e4 ?_
   refine b1F (fun h1=> ?_) (fun h1=> ?_)
   ·refine Xc e3 h1 ?_
    refine cD (fun h2=> ?_) (fun h2=> ?_)
    ·refine Xd e0 e3 e4 ?_
     refine hJ _ _ ?_ ?_
     ·refine Xb e0 ?_
      exact⟨k+1,n*2,rfl,rfl,by omega,by omega⟩
     ·refine Xb e4 ?_
      omega
    ·refine Xb e3 ?_
     refine hK _ _ ⟨?_,rfl⟩
     unfold a6o
     congr 1
     rcases hkn with⟨rfl,rfl⟩|⟨rfl,rfl⟩|⟨rfl,rfl⟩|⟨rfl,rfl⟩<;>split<;>omega
   ·refine Xc h1 e3 ?_
    refine hK _ _ ⟨?_,rfl⟩
    unfold a6o
    congr 1
    rcases hkn with⟨rfl,rfl⟩|⟨rfl,rfl⟩|⟨rfl,rfl⟩|⟨rfl,rfl⟩<;>(repeat' split)<;>omega
structure Msg where
 key:Int
 kind:Int
 rma:Int
 value:Int
 tries:Int
 due:Int
 deriving DecidableEq,Inhabited
def Msg.enc(m:Msg):List Value:=[.int .i64 m.key,.int .i64 m.kind,.int .i64 m.rma,.int .i64 m.value,.int .i64 m.tries,.int .i64 m.due]
def Msg.zero:Msg:=⟨0,0,0,0,0,0⟩
theorem enc_len(m:Msg):m.enc.length=6:=rfl
theorem enc_plain(m:Msg):pC m.enc=true:=rfl
structure a0G(base:Nat)(h:c9)(o:Nat)(v:Value)(next:Int)(l:List Msg):Prop where
 blk:blk h o=some ([.int .i64 next,v],172,(0,0))
 ge:base≤o
 own:Own Msg.enc 6 128 base h v l
 apart:o∉i9 v
theorem a0G.lt{base:Nat}{h:c9}{o:Nat}{v:Value}{next:Int}{l:List Msg}(i:a0G base h o v next l):o<h.size:=F5 i.blk
theorem c1w(k r v n:Int){base:Nat}{h:c9}{o:Nat}{s:Value}{next:Int}{l:List Msg}(hi:a0G base h o s next l)(hday: -9223372036854775808≤n∧n<9223372036854775807)(hl:l.length<1000000):
  d8 Tryz.prog 197 [.pointer (some ⟨o,0,none⟩),.int .i64 k,.int .i64 r,.int .i64 v,.int .i64 n] h fun u h'=>u= .agg (Msg.mk next k r v 1 (n+1)).enc.toArray∧
   ∃s',a0G base h' o s' (IntKind.i64.wrap (next+1)) (l++ [⟨next,k,r,v,1,n+1⟩])∧Fr h h' (o::i9 s)∧∀b∈i9 s',b∈i9 s∨h.size≤b:=by
 have hlt:=hi.lt
 have hge:=hi.ge
 have hap:=hi.apart
 have hs1:h.size∉i9 s:=fun hm=>by have:=(hi.own.lt _ hm).1;omega
 have hs2:h.size+1∉i9 s:=fun hm=>by have:=(hi.own.lt _ hm).1;omega
 have hw:a6o 1=1:=rfl
 refine EN i197.eq_1 fun K hK=> ?_
 (refine Xa ?_;try exact⟨⟩)
 refine a1G [] ?_
 simp(disch:=first|omega|assumption|((repeat' (first|exact Fr.refl _ _|assumption|(refine Fr.via (by assumption) ?_ (by intro i hi hm;first|exact hm|exact l_l _ hm|exact absurd hm l_d|(simp only[l_e,l_y,l_d,or_false]at hm⊢;omega)))|refine Fr.push ?_ _|(refine Fr.setM ?_ ?_ _; · first|exact l_n|(simp only[l_e,true_or,or_true];done))|(refine Fr.setN ?_ ?_ _; · first|omega|(simp only[l_c,l_b];omega))));done)|(simp only[l_c,l_b,l_f,l_g,l_e,l_d,or_false,false_or,U9,not_or];done)|(simp only[l_c,l_b,l_f,l_g,l_e,l_d,or_false,false_or,not_or];omega)) only[go_sem,↓wBk,↓eA,↓eB,↓eS,sT,simprocAttr,j3 hi.blk]
 constructor
 all_goals
  refine cI (a9V 1 _ (by omega)) ?_
  rintro _ _ ⟨rfl,rfl⟩
  simp(disch:=first|omega|assumption|((repeat' (first|exact Fr.refl _ _|assumption|(refine Fr.via (by assumption) ?_ (by intro i hi hm;first|exact hm|exact l_l _ hm|exact absurd hm l_d|(simp only[l_e,l_y,l_d,or_false]at hm⊢;omega)))|refine Fr.push ?_ _|(refine Fr.setM ?_ ?_ _; · first|exact l_n|(simp only[l_e,true_or,or_true];done))|(refine Fr.setN ?_ ?_ _; · first|omega|(simp only[l_c,l_b];omega))));done)|(simp only[l_c,l_b,l_f,l_g,l_e,l_d,or_false,false_or,U9,not_or];done)|(simp only[l_c,l_b,l_f,l_g,l_e,l_d,or_false,false_or,not_or];omega)) only[go_sem,↓wBk,↓eA,↓eB,↓eS,sT,simprocAttr,j3 hi.blk,hw,hi.blk]
  refine a1G (i9 s) ?_
  simp(disch:=first|omega|assumption|((repeat' (first|exact Fr.refl _ _|assumption|(refine Fr.via (by assumption) ?_ (by intro i hi hm;first|exact hm|exact l_l _ hm|exact absurd hm l_d|(simp only[l_e,l_y,l_d,or_false]at hm⊢;omega)))|refine Fr.push ?_ _|(refine Fr.setM ?_ ?_ _; · first|exact l_n|(simp only[l_e,true_or,or_true];done))|(refine Fr.setN ?_ ?_ _; · first|omega|(simp only[l_c,l_b];omega))));done)|(simp only[l_c,l_b,l_f,l_g,l_e,l_d,or_false,false_or,U9,not_or];done)|(simp only[l_c,l_b,l_f,l_g,l_e,l_d,or_false,false_or,not_or];omega)) only[go_sem,↓wBk,↓eA,↓eB,↓eS,sT,simprocAttr,j3 hi.blk,hw,hi.blk]
  refine Q8 (x:=Msg.mk next k r v 1 (n+1)) enc_len (by omega) enc_plain rfl rfl (by simp) (hi.own.keep fun b hb=> ?_) (by simp;omega) (by omega) (by omega) ?_
  ·have hb1:=(hi.own.lt b hb).1
   have hb2:b≠o:=fun e=>hap (e▸hb)
   (refine Xa ?_;try exact⟨⟩)
  ·intro s' h' ho' hf hb
   have hsz:=hf.size
   simp only[l_c,l_b]at hsz hb
   have hlt':=ho'.lt
   obtain⟨A',c',rfl⟩:=ho'.slice
   have hn1:∀b∈i9 (.slice A' (l++ [(⟨next,k,r,v,1,n+1⟩:Msg)]).length c'),b≠o∧b≠h.size:=fun b hm=>by
    rcases hb b hm with h1|h1
    ·exact⟨fun e=>hap (e▸h1),fun e=>hs1 (e▸h1)⟩
    ·omega
   simp(disch:=first|omega|assumption|((repeat' (first|exact Fr.refl _ _|assumption|(refine Fr.via (by assumption) ?_ (by intro i hi hm;first|exact hm|exact l_l _ hm|exact absurd hm l_d|(simp only[l_e,l_y,l_d,or_false]at hm⊢;omega)))|refine Fr.push ?_ _|(refine Fr.setM ?_ ?_ _; · first|exact l_n|(simp only[l_e,true_or,or_true];done))|(refine Fr.setN ?_ ?_ _; · first|omega|(simp only[l_c,l_b];omega))));done)|(simp only[l_c,l_b,l_f,l_g,l_e,l_d,or_false,false_or,U9,not_or];done)|(simp only[l_c,l_b,l_f,l_g,l_e,l_d,or_false,false_or,not_or];omega)) only[go_sem,↓wBk,↓eA,↓eB,↓eS,sT,simprocAttr,hf,j3 hi.blk,hi.blk,hf.blk,hf.rd1,hf.rdN]
   refine hK _ _ ⟨rfl,_,⟨?_,hge,ho'.keep fun b hm=> ?_,fun hm=>(hn1 o hm).1 rfl⟩,?_,?_⟩
   ·(refine Xa ?_;try exact⟨⟩)
   ·have:=hn1 b hm
    (refine Xc @this.1 @this.2 ?_;try exact⟨⟩)
   ·refine⟨by simp;omega,fun b hb1 hb2=> ?_⟩
    simp only[l_e,not_or]at hb2
    rw[Array.getElem?_setIfInBounds_ne (by omega),Array.getElem?_setIfInBounds_ne (fun e=>hb2.1 e.symm),hf.same b (by simp;omega) hb2.2,Array.getElem?_setIfInBounds_ne (fun e=>hb2.1 e.symm),Array.getElem?_setIfInBounds_ne (by omega),Array.getElem?_push,if_neg (by simp;omega),Array.getElem?_push,if_neg (by omega)]
   ·intro b hm
    rcases hb b hm with h1|h1
    ·exact .inl h1
    ·exact .inr (by omega)
theorem c3F(k r v n:Int){base:Nat}{h:c9}{o:Nat}{s:Value}{next:Int}{l:List Msg}(hi:a0G base h o s next l)(hn:0≤next∧next<9223372036854775807)(hday: -9223372036854775808≤n∧n<9223372036854775807)(hl:l.length<1000000):
  d8 Tryz.prog 197 [.pointer (some ⟨o,0,none⟩),.int .i64 k,.int .i64 r,.int .i64 v,.int .i64 n] h fun u h'=>u= .agg (Msg.mk next k r v 1 (n+1)).enc.toArray∧
   ∃s',a0G base h' o s' (next+1) (l++ [⟨next,k,r,v,1,n+1⟩])∧Fr h h' (o::i9 s)∧∀b∈i9 s',b∈i9 s∨h.size≤b:=by
 have:=c1w k r v n hi hday hl
 rwa[u5 (by omega) (by omega)]at this
section
open Go Go.RowKit
theorem c3c{P:Program}{f:FuncId}{args:List Value}{W:World}(hc:d8 P f args W.heap fun v h'=>v= .bool true∧Fr W.heap h' []):
  Calls P f args.toArray W fun e w'=>e= .returned (.bool true)∧Below W.heap.size W w':=by
 refine(hc W rfl).mono ?_
 rintro e w' ⟨v,rfl,ha,rfl,hf⟩
 exact⟨rfl,ha.1,ha.2.1,ha.2.2,hf.size,fun k hk=>hf.same k hk (by simp)⟩
theorem C1{n:Int}(h:(Lit.int .i64 n).wf=true): -9223372036854775808≤n∧n<9223372036854775808:=by
 simp[Lit.wf,IntKind.min,IntKind.max,IntKind.signed,IntKind.bits]at h
 omega
end
theorem b2U(t:Int)(h:c9)(ht:t<9223372036854775808):d8 Tryz.prog 163 [.int .i64 t] h fun v h'=>v= .int .i64 (a6o t)∧h'=h:=by
 refine EN i163.eq_1 fun K hK=> ?_
 refine Xa ?_
 refine cD (fun h1=> ?_) (fun h1=> ?_)
 ·refine Xa ?_
  exact hK _ _ ⟨by rw[a6o,if_pos h1],rfl⟩
 ·refine Xa ?_
  refine cD (fun h2=> ?_) (fun h2=> ?_)
  ·refine Xa ?_
   exact hK _ _ ⟨by rw[a6o,if_neg h1,if_neg (by omega),if_neg (by omega),if_neg (by omega)],rfl⟩
  ·obtain rfl|rfl|rfl:t=1∨t=2∨t=3:=by omega
   all_goals
    refine Xa ?_
    exact hK _ _ ⟨rfl,rfl⟩
end Go.Proofs.YtjagmebglhbdkaaGreat.MX
