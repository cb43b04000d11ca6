import Derived.Test.YtjagmebglhbdkaaGreatK08
import Derived.OpenShut
import Derived.Deep.Slices
import Derived.SizedLaws
import Derived.Test.YtjagmebglhbdkaaGreatK12
namespace Go.Proofs.YtjagmebglhbdkaaGreat.MX
open Go Go.Proofs
set_option linter.unusedSimpArgs false
set_option linter.unusedVariables false
section
open Go Go.ChangeShapes Go.Deep
def a3t(P:Program)(h:c9):Nat→TypeId→List Value→Prop
 |0,_,_=>False
 |d+1,t,cs=>
  (∀k,P.underlying t=some (.int k)→∃n,cs=[.int k n]∧(Lit.int k n).wf=true)∧
  (P.underlying t=some .bool→∃b,cs=[.bool b])∧
  (P.underlying t=some .string→∃s,cs=[.string s]∧s.size≤maxLen)∧
  (∀fs,P.underlying t=some (.struct fs)→cs.length=P.cellsOf t∧∀(j:Nat) f,fs[j]? =some f→a3t P h d f.type ((cs.drop f.offset).take (P.cellsOf f.type)))∧
  (∀n e,P.underlying t=some (.array n e)→cs.length=P.cellsOf t∧∀i,i<n→a3t P h d e ((cs.drop (i*P.cellsOf e)).take (P.cellsOf e)))∧
  (∀e,P.underlying t=some (.slice e)→cs=[.slice none 0 0]∨∃(a:Addr) (len cap:Nat),cs=[.slice (some a) len cap]∧len≤cap∧cap≤maxLen∧len*P.bytesOf e≤reachBytes∧
   ∀i,i<len→∃cs',(0<P.cellsOf e→a.spot=none∧rdN h a.block (a.off+i*P.cellsOf e) (P.cellsOf e)=some cs')∧a3t P h d e cs')
theorem b0y{w:World}{b off n:Nat}{cs:List Value}(h0:0<n)(hl:cs.length=n)(hc:∀i,i<n→w.cell? ⟨b,off+i,none⟩=cs[i]?):rdN w.heap b off n=some cs:=by
 have hsome:∀i,i<n→∃v,w.cell? ⟨b,off+i,none⟩=some v:=fun i hi=>⟨cs[i]'(by omega),by rw[hc i hi,l_r (by omega)]⟩
 obtain⟨c,e,f,hb⟩:∃c e f,w.heap[b]? =some (.cells c e f):=by
  obtain⟨v,hv⟩:=hsome 0 h0
  unfold World.cell? at hv
  split at hv
  ·rename_i c e f hb;exact⟨c,e,f,hb⟩
  ·cases hv
 have hget:∀i,i<n→c.toList[off+i]? =cs[i]? :=fun i hi=>by
  rw[←hc i hi]
  simp[World.cell?,hb]
 have hle:off+n≤c.toList.length:=by
  obtain⟨v,hv⟩:=hsome (n-1) (by omega)
  have:=hget (n-1) (by omega)
  rw[←hc _ (by omega),hv]at this
  have:=(List.getElem?_eq_some_iff.1 this).1
  omega
 have hblk:blk w.heap b=some (c.toList,e,f):=by simp[blk,hb]
 rw[v8 hblk hle]
 congr 1
 apply List.ext_getElem?
 intro i
 rw[List.getElem?_take,List.getElem?_drop]
 by_cases hi:i<n
 ·rw[if_pos hi,hget i hi]
 ·rw[if_neg hi,Y1 (by omega)]
section
variable{H:Type}{enc:TypeId×Value→H}{P:Program}{w:World}{spare:Nat→Bool}{held:Bool}
theorem Z5{e:TypeId}{n:Nat}:∀{ds:List (DataW H)}{j:Nat}{d:DataW H},ds[j]? =some d→n∈d.weights P e→n∈DataW.weightsAll P e ds
 | [],_,_,hd,_=>by simp at hd
 |d0::ds,0,d,hd,hn=>by
  simp only[l_o,Option.some.injEq]at hd
  subst hd
  simp only[DataW.weightsAll,l_y]
  exact .inl hn
 |d0::ds,j+1,d,hd,hn=>by
  simp only[l_p]at hd
  simp only[DataW.weightsAll,l_y]
  exact .inr (Z5 hd hn)
theorem wts{ts:List TypeId}{ds:List (DataW H)}(h:(DataW.weightsEach P ts ds).all (· ≤reachBytes)=true){j:Nat}{t:TypeId}{d:DataW H}(ht:ts[j]? =some t)(hd:ds[j]? =some d):∀n∈d.weights P t,n≤reachBytes:=fun n hn=>by
 have:=List.all_eq_true.1 h _ (DataW.weights_mem_each ht hd n hn)
 simpa using this
theorem a4A:∀(fuel:Nat) {t:TypeId}{cs:List Value}{x:DataW H×List MemPlace},DataW.trod enc P w 0 spare held fuel t cs=some x→(∀n∈x.1.weights P t,n≤reachBytes)→a3t P w.heap fuel t cs
 |0,t,cs,x,h,_=>by simp[DataW.trod]at h
 |d+1,t,cs,x,h,hw=>by
  refine⟨fun k hu=> ?_,fun hu=> ?_,fun hu=> ?_,fun fs hu=> ?_,fun n e hu=> ?_,fun e hu=> ?_⟩
  ·unfold DataW.trod at h
   rw[hu]at h
   split at h<;>first|(rename_i heq;cases heq;done)|(rename_i heq _;cases heq;done)|skip
   all_goals first|(cases h;done)|skip
   ·rename_i k k' n heq
    cases heq
    split at h
    ·rename_i hk;obtain⟨rfl,hw⟩:=hk;exact⟨n,rfl,hw⟩
    ·cases h
  ·unfold DataW.trod at h
   rw[hu]at h
   split at h<;>first|(rename_i heq;cases heq;done)|(rename_i heq _;cases heq;done)|skip
   all_goals first|(cases h;done)|skip
   ·exact⟨_,rfl⟩
  ·unfold DataW.trod at h
   rw[hu]at h
   split at h<;>first|(rename_i heq;cases heq;done)|(rename_i heq _;cases heq;done)|skip
   all_goals first|(cases h;done)|skip
   ·rename_i s heq
    split at h
    ·rename_i hs;exact⟨s,rfl,hs⟩
    ·cases h
  ·obtain⟨xs,n,hn,hx,hl,hlen,hf⟩:=DataW.trod_struct hu h
   cases hn
   subst hx
   simp only[DataW.weights,hu]at hw
   refine⟨hl,fun j f hj=> ?_⟩
   have hjl:j<xs.length:=by rw[hlen];exact(Array.getElem?_eq_some_iff.1 hj).1
   have:=hf j f hj
   rw[l_r hjl]at this
   refine a4A d this fun n hn=>hw n (DataW.weights_mem_each (j:=j) (t:=f.type) (by rw[a0H,a5u,hj];rfl) (by rw[a0H,l_r hjl];rfl) n hn)
  ·obtain⟨xs,m,hm,hx,hl,hlen,hf⟩:=DataW.trod_array hu h
   cases hm
   subst hx
   simp only[DataW.weights,hu]at hw
   refine⟨hl,fun i hi=> ?_⟩
   have:=hf i hi
   rw[l_r (by omega)]at this
   exact a4A d this fun n hn=>hw n (Z5 (j:=i) (by rw[a0H,l_r (by omega)];rfl) hn)
  ·rcases DataW.trod_slice hu h with⟨h0,_⟩|⟨a,len,cap,elems,rest,n,hn,hcs,hx,_,hl,hm,hlen,hel,_⟩
   ·exact .inl h0
   ·cases hn
    subst hx
    simp only[DataW.weights,hu,l_z]at hw
    have hwl:=hw _ (l_n ..)
    refine .inr ⟨a,len,cap,hcs,hl,hm,Z0 (a1n _ (by omega)) hwl,fun i hi=> ?_⟩
    obtain⟨cs',hc,ht⟩:=by
     have:=hel i hi
     rw[l_r (by omega)]at this
     exact Option.bind_eq_some_iff.1 this
    refine⟨cs',fun h0=> ?_,a4A d ht fun n hn=>hw n (l_l _ (Y0 _ (Z5 (j:=i) (by rw[a0H,l_r (by omega)];rfl) hn)))⟩
    obtain⟨_,hcl,hat⟩:=World.cells?_some hc
    have hspot:a.spot=none:=by
     obtain⟨cs0,hc0,_⟩:=by
      have:=hel 0 (by omega)
      rw[l_r (by omega)]at this
      exact Option.bind_eq_some_iff.1 this
     obtain⟨_,hcl0,hat0⟩:=World.cells?_some hc0
     have h1:=hat0 0 h0
     rw[l_r (by omega)]at h1
     have h2:(a.add (0*P.cellsOf e)).add 0=a:=by simp[Addr.add]
     rw[h2]at h1
     cases hs:a.spot with
     |none=>rfl
     |some s=>
      exfalso
      unfold World.cell? at h1
      rw[hs]at h1
      split at h1<;>simp at h1
    refine⟨hspot,?_⟩
    obtain⟨ab,ao,asp⟩:=a
    cases hspot
    refine b0y h0 hcl fun i' hi'=> ?_
    rw[←hat i' hi']
    simp only[P9]
end
end
section
open Go Go.ChangeShapes Go.Deep
inductive LK where
 |int (k:IntKind)|bool|str|slice (e:TypeId)
 deriving DecidableEq
def a6u(lv:TypeId→Option (List LK))(P:Program):List Field→Nat→Option (List LK)
 | [],_=>some []
 |f::fs,off=>if f.offset=off then(lv f.type).bind fun l=>if l.length=P.cellsOf f.type then(a6u lv P fs (off+l.length)).map (l++ ·)else none else none
def a0x(P:Program):Nat→TypeId→Option (List LK)
 |0,_=>none
 |n+1,t=>match P.underlying t with
  |some (.int k)=>some [.int k]
  |some .bool=>some [.bool]
  |some .string=>some [.str]
  |some (.slice e)=>some [.slice e]
  |some (.struct fs)=>(a6u (a0x P n) P fs.toList 0).bind fun l=>if l.length=P.cellsOf t then some l else none
  |some (.array m e)=>(a0x P n e).bind fun l=>if l.length=P.cellsOf e∧P.cellsOf t=m*P.cellsOf e then some (List.replicate m l).flatten else none
  |_=>none
def a2c(P:Program)(h:c9)(e:TypeId)(v:Value):Prop:=
 v= .slice none 0 0∨∃(a:Addr) (len cap d:Nat),v= .slice (some a) len cap∧len≤cap∧cap≤maxLen∧len*P.bytesOf e≤reachBytes∧
  ∀i,i<len→∃cs',(0<P.cellsOf e→a.spot=none∧rdN h a.block (a.off+i*P.cellsOf e) (P.cellsOf e)=some cs')∧a3t P h d e cs'
def B6(P:Program)(h:c9):List LK→List Value→Prop
 | [],cs=>cs=[]
 | .int k::ls,cs=>∃n cs',cs= .int k n::cs'∧(Lit.int k n).wf=true∧B6 P h ls cs'
 | .bool::ls,cs=>∃b cs',cs= .bool b::cs'∧B6 P h ls cs'
 | .str::ls,cs=>∃s cs',cs= .string s::cs'∧s.size≤maxLen∧B6 P h ls cs'
 | .slice e::ls,cs=>∃v cs',cs=v::cs'∧a2c P h e v∧B6 P h ls cs'
variable{P:Program}{h:c9}
theorem B6.append{l2:List LK}{c2:List Value}(h2:B6 P h l2 c2):∀{l1:List LK}{c1:List Value},B6 P h l1 c1→B6 P h (l1++l2) (c1++c2)
 | [],c1,h1=>by cases h1;exact h2
 | .int k::ls,c1,h1=>by obtain⟨n,cs,rfl,w,hh⟩:=h1;exact⟨n,cs++c2,rfl,w,B6.append h2 hh⟩
 | .bool::ls,c1,h1=>by obtain⟨n,cs,rfl,hh⟩:=h1;exact⟨n,cs++c2,rfl,B6.append h2 hh⟩
 | .str::ls,c1,h1=>by obtain⟨n,cs,rfl,w,hh⟩:=h1;exact⟨n,cs++c2,rfl,w,B6.append h2 hh⟩
 | .slice e::ls,c1,h1=>by obtain⟨n,cs,rfl,w,hh⟩:=h1;exact⟨n,cs++c2,rfl,w,B6.append h2 hh⟩
theorem a8Y{lv:TypeId→Option (List LK)}{Q:TypeId→List Value→Prop}{cs:List Value}(hlv:∀t c l,Q t c→lv t=some l→B6 P h l c):
  ∀{fs:List Field}{off:Nat}{ls:List LK},a6u lv P fs off=some ls→off+ls.length=cs.length→
  (∀(j:Nat) f,fs[j]? =some f→Q f.type ((cs.drop f.offset).take (P.cellsOf f.type)))→B6 P h ls (cs.drop off)
 | [],off,ls,hl,hn,hq=>by
  cases hl
  simp at hn
  subst hn
  simp[B6]
 |f::fs,off,ls,hl,hn,hq=>by
  unfold a6u at hl
  split at hl
  ·rename_i ho
   obtain⟨l,h1,h2⟩:=Option.bind_eq_some_iff.1 hl
   split at h2
   ·rename_i hc
    obtain⟨l2,h3,rfl⟩:=Option.map_eq_some_iff.1 h2
    have q0:=hlv _ _ _ (hq 0 f rfl) h1
    rw[ho,←hc]at q0
    have q1:=a8Y hlv h3 (by simp at hn;omega) (fun j f' hj=>hq (j+1) f' (by simpa using hj))
    have:=B6.append q1 q0
    rwa[show(cs.drop off).take l.length++cs.drop (off+l.length)=cs.drop off by rw[←List.drop_drop,G0]]at this
   ·cases h2
  ·cases hl
theorem b5w{l:List LK}{cs:List Value}:∀{m k:Nat},(k+m)*l.length=cs.length→(∀i,i<k+m→B6 P h l ((cs.drop (i*l.length)).take l.length))→B6 P h (List.replicate m l).flatten (cs.drop (k*l.length))
 |0,k,hn,hq=>by simp at hn;simp[B6,hn]
 |m+1,k,hn,hq=>by
  have q0:=hq k (by omega)
  have q1:=b5w (l:=l) (cs:=cs) (m:=m) (k:=k+1) (by rw[←hn];congr 1;omega) (fun i hi=>hq i (by omega))
  have:=B6.append q1 q0
  rw[List.replicate_succ,List.flatten_cons]
  rwa[show(cs.drop (k*l.length)).take l.length++cs.drop ((k+1)*l.length)=cs.drop (k*l.length) by rw[Nat.succ_mul,←List.drop_drop,G0]]at this
theorem B6.len:∀{ls:List LK}{cs:List Value},B6 P h ls cs→cs.length=ls.length
 | [],_,hh=>by cases hh;rfl
 | .int k::ls,c1,h1=>by obtain⟨n,cs,rfl,w,hh⟩:=h1;simp[hh.len]
 | .bool::ls,c1,h1=>by obtain⟨n,cs,rfl,hh⟩:=h1;simp[hh.len]
 | .str::ls,c1,h1=>by obtain⟨n,cs,rfl,w,hh⟩:=h1;simp[hh.len]
 | .slice e::ls,c1,h1=>by obtain⟨n,cs,rfl,w,hh⟩:=h1;simp[hh.len]
theorem L9:∀(n:Nat) {d:Nat}{t:TypeId}{cs:List Value}{ls:List LK},a3t P h d t cs→a0x P n t=some ls→B6 P h ls cs
 |0,_,_,_,_,_,hl=>by cases hl
 |n+1,0,_,_,_,hg,_=>hg.elim
 |n+1,d+1,t,cs,ls,hg,hl=>by
  obtain⟨gi,gb,gs,gf,ga,gl⟩:=hg
  unfold a0x at hl
  split at hl
  ·rename_i k hu;cases hl;obtain⟨m,rfl,w⟩:=gi k hu;exact⟨m,[],rfl,w,rfl⟩
  ·rename_i hu;cases hl;obtain⟨b,rfl⟩:=gb hu;exact⟨b,[],rfl,rfl⟩
  ·rename_i hu;cases hl;obtain⟨s,rfl,w⟩:=gs hu;exact⟨s,[],rfl,w,rfl⟩
  ·rename_i e hu
   cases hl
   rcases gl e hu with rfl|⟨a,len,cap,rfl,h1,h2,hz,h3⟩
   ·exact⟨_,[],rfl,.inl rfl,rfl⟩
   ·exact⟨_,[],rfl,.inr ⟨a,len,cap,d,rfl,h1,h2,hz,h3⟩,rfl⟩
  ·rename_i fs hu
   obtain⟨l,h1,h2⟩:=Option.bind_eq_some_iff.1 hl
   split at h2
   ·rename_i hc
    cases h2
    obtain⟨hlen,hq⟩:=gf fs hu
    have:=a8Y (P:=P) (h:=h) (Q:=a3t P h d) (cs:=cs) (fun t c l hg' hl'=>L9 n hg' hl') h1 (by omega) (fun j f hj=>hq j f (by simpa using hj))
    simpa using this
   ·cases h2
  ·rename_i m e hu
   obtain⟨l,h1,h2⟩:=Option.bind_eq_some_iff.1 hl
   split at h2
   ·rename_i hc
    cases h2
    obtain⟨hlen,hq⟩:=ga m e hu
    have:=b5w (P:=P) (h:=h) (l:=l) (cs:=cs) (m:=m) (k:=0) (by rw[hlen,hc.2,hc.1];simp) (fun i hi=>by have:=L9 n (hq i (by omega)) h1;rwa[hc.1])
    simpa using this
   ·cases h2
  ·cases hl
theorem a2c.arrZ{α:Type}{enc:α→List Value}{ok:α→Prop}{e sz:Nat}(hsz:P.cellsOf e=sz)(h0:0<sz){v:Value}(hg:a2c P h e v)
  (hel:∀{d:Nat}{cs:List Value},a3t P h d e cs→∃x,cs=enc x∧ok x):
  ∃(A:Option Addr) (c:Nat) (xs:List α),v= .slice A xs.length c∧Arr enc sz h A xs∧xs.length≤c∧c≤maxLen∧xs.length*P.bytesOf e≤reachBytes∧∀x∈xs,ok x:=by
 subst hsz
 rcases hg with rfl|⟨a,len,cap,d,rfl,h1,h2,hz,h3⟩
 ·exact⟨none,0,[],rfl,Arr.nil _ _ _ _,x9 _,by decide,by simp[reachBytes],by simp⟩
 ·have hx:∀i,i<len→∃x,(a.spot=none∧rdN h a.block (a.off+i*P.cellsOf e) (P.cellsOf e)=some (enc x))∧ok x:=fun i hi=>by
   obtain⟨cs,hr,hgd⟩:=h3 i hi
   obtain⟨x,rfl,hok⟩:=hel hgd
   exact⟨x,hr h0,hok⟩
  have:∀m,m≤len→∃xs:List α,xs.length=m∧∀i (hi:i<xs.length),(a.spot=none∧rdN h a.block (a.off+i*P.cellsOf e) (P.cellsOf e)=some (enc xs[i]))∧ok xs[i]:=by
   intro m
   induction m with
   |zero=>exact fun _=>⟨[],rfl,fun i hi=>absurd hi (by simp)⟩
   |succ m ih=>
    intro hm
    obtain⟨xs,hl,hh⟩:=ih (by omega)
    obtain⟨x,hxx⟩:=hx m (by omega)
    refine⟨xs++ [x],by simp[hl],fun i hi=> ?_⟩
    by_cases hi':i<xs.length
    ·rw[List.getElem_append_left hi'];exact hh i hi'
    ·have:i=m:=by simp at hi;omega
     subst this
     rw[List.getElem_append_right (by omega)]
     simpa using hxx
  obtain⟨xs,rfl,hh⟩:=this len (x9 _)
  refine⟨some a,cap,xs,rfl,fun i hi=> ?_,h1,h2,hz,fun x hx=> ?_⟩
  ·obtain⟨⟨hs,hr⟩,_⟩:=hh i hi
   obtain⟨ab,ao,asp⟩:=a
   cases hs
   exact⟨ab,ao,rfl,hr⟩
  ·obtain⟨i,hi,rfl⟩:=R7 hx
   exact(hh i hi).2
theorem a2c.arr{α:Type}{enc:α→List Value}{ok:α→Prop}{e sz:Nat}(hsz:P.cellsOf e=sz)(h0:0<sz){v:Value}(hg:a2c P h e v)
  (hel:∀{d:Nat}{cs:List Value},a3t P h d e cs→∃x,cs=enc x∧ok x):
  ∃(A:Option Addr) (c:Nat) (xs:List α),v= .slice A xs.length c∧Arr enc sz h A xs∧xs.length≤c∧c≤maxLen∧∀x∈xs,ok x:=by
 obtain⟨A,c,xs,h1,h2,h3,h4,_,h5⟩:=a2c.arrZ hsz h0 hg hel
 exact⟨A,c,xs,h1,h2,h3,h4,h5⟩
end
def Pol.ok(p:Pol):Prop:=I64 p.w∧I64 p.f0∧I64 p.f1∧I64 p.f2∧I64 p.f3∧I64 p.s0∧I64 p.t0∧I64 p.s1∧I64 p.t1∧I64 p.s2∧I64 p.t2∧I64 p.s3∧I64 p.t3
theorem c4p{h:c9}{d:Nat}{cs:List Value}(hg:a3t Tryz.prog h d 83 cs):∃x:Pol,cs=x.enc∧x.ok:=by
 have hl:a0x Tryz.prog 4 83=some [.int .i64,.bool,.bool,.bool,.int .i64,.int .i64,.int .i64,.int .i64,.int .i64,.int .i64,.int .i64,.int .i64,.int .i64,.int .i64,.int .i64,.int .i64]:=by kernel_rfl
 obtain⟨a0,_,rfl,w0,b1,_,rfl,b2,_,rfl,b3,_,rfl,a4,_,rfl,w4,a5,_,rfl,w5,a6,_,rfl,w6,a7,_,rfl,w7,a8,_,rfl,w8,a9,_,rfl,w9,a10,_,rfl,w10,a11,_,rfl,w11,a12,_,rfl,w12,a13,_,rfl,w13,a14,_,rfl,w14,a15,_,rfl,w15,rfl⟩:=L9 4 hg hl
 exact⟨⟨a0,b1,b2,b3,a4,a5,a6,a7,a8,a9,a10,a11,a12,a13,a14,a15⟩,rfl,C1 w0,C1 w4,C1 w5,C1 w6,C1 w7,C1 w8,C1 w9,C1 w10,C1 w11,C1 w12,C1 w13,C1 w14,C1 w15⟩
theorem c4P{h0 h:c9}{l:List HP}{A:Option Addr}{c:Nat}{xs:List Pol}(S:St h0 h l)(ha:∀h',St h0 h' l→Arr Pol.enc 16 h' A xs)(k:Int):
  d8 Tryz.prog 66 [.slice A xs.length c,.int .i64 k] h fun v h'=>St h0 h' l∧((∃i:Nat,∃hi:i<xs.length,k=i∧v= .tuple #[.agg xs[i].enc.toArray,.int .i64 0])∨((k<0∨xs.length≤k)∧v= .tuple #[.agg Pol.zero.enc.toArray,.int .i64 10])):=by
 by_cases hk:k<0
 ·refine EN i66.eq_1 fun K hK=>Wa ?_
  (revert S;(try clear F);refine AL fun b h S F=> ?_)
  refine Wb F ?_
  (revert S;(try clear F);refine ST fun h S F=> ?_)
  refine Wb F ?_
  exact hK _ _ ⟨S.tl,.inr ⟨.inl hk,rfl⟩⟩
 ·by_cases hk2:(xs.length:Int)≤k
  ·refine EN i66.eq_1 fun K hK=>Wa ?_
   (revert S;(try clear F);refine AL fun b h S F=> ?_)
   refine Wb F ?_
   (revert S;(try clear F);refine ST fun h S F=> ?_)
   refine Wb F ?_
   exact hK _ _ ⟨S.tl,.inr ⟨.inr hk2,rfl⟩⟩
  ·obtain⟨i,rfl⟩:=l_u (show 0≤k by omega)
   have hi:i<xs.length:=by omega
   obtain⟨b,off,rfl,hr1⟩:=(ha _ S).at hi
   refine EN i66.eq_1 fun K hK=>Wa ?_
   (revert S;(try clear F);refine AL fun g h S F=> ?_)
   obtain⟨b',off',hA,hr2⟩:=(ha _ S.tl).at hi
   cases hA
   refine Wd F hr2 @Pol.enc.eq_1 ?_
   (revert S;(try clear F);refine ST fun h S F=> ?_)
   refine Wb F ?_
   exact hK _ _ ⟨S.tl,.inl ⟨i,hi,rfl,rfl⟩⟩

def Pol.fee(p:Pol):Nat→Int|0=>p.f0|1=>p.f1|2=>p.f2|_=>p.f3
def Pol.sh(p:Pol):Nat→Int|0=>p.s0|1=>p.s1|2=>p.s2|_=>p.s3
def Pol.to(p:Pol):Nat→Int|0=>p.t0|1=>p.t1|2=>p.t2|_=>p.t3
def Pol.okAt(p:Pol)(i:Nat):Prop:=U2 (p.fee i)∧Z9 (p.sh i) (p.to i)
theorem Pol.right_iff(p:Pol):p.right↔(∀i,i<4→p.okAt i)∧0≤p.w∧p.w≤1000:=by
 constructor
 ·rintro⟨⟨a0,a1,a2,a3⟩,⟨b0,b1,b2,b3⟩,hw⟩
  refine⟨fun i hi=> ?_,hw⟩
  obtain rfl|rfl|rfl|rfl:i=0∨i=1∨i=2∨i=3:=by omega
  ·exact⟨a0,b0⟩
  ·exact⟨a1,b1⟩
  ·exact⟨a2,b2⟩
  ·exact⟨a3,b3⟩
 ·rintro⟨h,hw⟩
  have h0:=h 0 (by omega)
  have h1:=h 1 (by omega)
  have h2:=h 2 (by omega)
  have h3:=h 3 (by omega)
  exact⟨⟨h0.1,h1.1,h2.1,h3.1⟩,⟨h0.2,h1.2,h2.2,h3.2⟩,hw⟩
theorem Pol.enc_fee(p:Pol){i:Nat}(hi:i<4):p.enc[4+i]? =some (.int .i64 (p.fee i)):=by
 obtain rfl|rfl|rfl|rfl:i=0∨i=1∨i=2∨i=3:=by omega
 all_goals rfl
theorem Pol.enc_gr(p:Pol){i:Nat}(hi:i<4):(p.enc.drop (8+i*2)).take 2=[.int .i64 (p.sh i),.int .i64 (p.to i)]:=by
 obtain rfl|rfl|rfl|rfl:i=0∨i=1∨i=2∨i=3:=by omega
 all_goals rfl
set_option maxHeartbeats 4000000 in
theorem a6M(p:Pol)(h0:c9):d8 Tryz.prog 68 [.agg p.enc.toArray] h0 fun v h'=>v= .bool (dcd p.right)∧Fr h0 h' []:=by
 have S:=St.nil h0
 have hel:p.enc.length=16:=rfl
 refine EN i68.eq_1 fun K hK=>Wa ?_
 (revert S;(try clear F);refine AL fun b h S F=> ?_)
 refine Wb F ?_
 refine lI (fun ρ h'=>ρ 1= .pointer (some ⟨b,0,none⟩)∧∃i:Nat,ρ 5= .int .i64 i∧i≤4∧(∀j,j<i→p.okAt j)∧St h0 h' [d9 b p.enc 83]) (fun ρ _=>4-(iv (ρ 5)).toNat) ?_ ?_
 ·refine Wa ?_
  exact⟨0,rfl,by omega,by omega,S⟩
 ·clear S F
  rintro ρ h' J hJ ⟨e1,i,e5,hi,hok,S⟩
  refine Wb e5 ?_
  refine cD (fun hg=> ?_) (fun hg=> ?_)
  ·have hi4:i<4:=by omega
   have g1:=p.enc_fee hi4
   have g2:=p.enc_gr hi4
   have hfail:¬p.okAt i→¬p.right:=fun h1 h2=>h1 (p.right_iff.1 h2|>.1 i hi4)
   have hnext:p.okAt i→∀j,j<i+1→p.okAt j:=fun h1 j hj=>by
    rcases Nat.lt_or_ge j i with h2|h2
    ·exact hok j h2
    ·obtain rfl:j=i:=by omega
     exact h1
   simp only[Pol.okAt]at hfail hnext
   generalize p.fee i=f at g1 hfail hnext
   generalize p.sh i=s at g2 hfail hnext
   generalize p.to i=t at g2 hfail hnext
   ((try clear F);have F:=S.fx)
   refine Wf e1 e5 F @m9 g2 ?_
   (revert S;(try clear F);refine AL fun q h S F=> ?_)
   refine Wg e1 e5 F @m9 g1 g2 ?_
   (revert S;(try clear F);refine ST fun h S F=> ?_)
   refine Wf e1 e5 F @m9 g1 ?_
   refine cI (a4S _ _) ?_
   rintro _ _ ⟨rfl,rfl⟩
   have S':=S.tl
   by_cases hf:U2 f
   ·refine Wb F ?_
    refine cI (a4S _ _) ?_
    rintro _ _ ⟨rfl,rfl⟩
    by_cases hs:U2 s
    ·by_cases ht:Z9 s t
     ·have hgo:p.okAt i→True:=fun _=>trivial
      rcases ht.2 with⟨ht0,hs0⟩|⟨ht3,ht5⟩
      ·refine Wd F e1 e5 ?_
       refine hJ _ _ ?_ ?_
       ·refine Wc e1 e5 ?_
        exact⟨i+1,rfl,by omega,hnext ⟨hf,ht⟩,S'⟩
       ·refine Wb e5 ?_
        omega
      ·obtain rfl|rfl|rfl:t=3∨t=4∨t=5:=by omega
       all_goals
        refine Wd F e1 e5 ?_
        refine hJ _ _ ?_ ?_
        ·refine Wc e1 e5 ?_
         exact⟨i+1,rfl,by omega,hnext ⟨hf,ht⟩,S'⟩
        ·refine Wb e5 ?_
         omega
     ·have hr:¬p.right:=hfail fun h=>ht h.2
      by_cases ht0:t=0
      ·have hs0:¬s=0:=fun h=>ht ⟨hs,.inl ⟨ht0,h⟩⟩
       refine Wb F ?_
       exact hK _ _ ⟨by rw[dF hr],S.fr⟩
      ·have ht3:¬t=3:=fun h=>ht ⟨hs,.inr (by omega)⟩
       have ht4:¬t=4:=fun h=>ht ⟨hs,.inr (by omega)⟩
       have ht5:¬t=5:=fun h=>ht ⟨hs,.inr (by omega)⟩
       refine Wb F ?_
       exact hK _ _ ⟨by rw[dF hr],S.fr⟩
    ·have hr:¬p.right:=hfail fun h=>hs h.2.1
     refine Wb F ?_
     exact hK _ _ ⟨by rw[dF hr],S.fr⟩
   ·have hr:¬p.right:=hfail fun h=>hf h.1
    refine Wb F ?_
    exact hK _ _ ⟨by rw[dF hr],S.fr⟩
  ·obtain rfl:i=4:=by omega
   ((try clear F);have F:=S.fx)
   have gw:p.enc[0]? =some (.int .i64 p.w):=rfl
   by_cases hw0:0≤p.w
   ·by_cases h1:p.w≤1000
    ·refine Wd e1 F gw ?_
     exact hK _ _ ⟨by rw[dT];exact p.right_iff.2 ⟨hok,hw0,h1⟩,S.fr⟩
    ·refine Wd e1 F gw ?_
     exact hK _ _ ⟨by rw[dF];exact fun h=>h1 h.2.2.2,S.fr⟩
   ·refine Wd e1 F gw ?_
    exact hK _ _ ⟨by rw[dF];exact fun h=>hw0 h.2.2.1,S.fr⟩
section
set_option maxHeartbeats 4000000
structure Lin where
 sku:Int
 cat:Int
 price:Int
 count:Int
def Lin.enc(x:Lin):List Value:=[.int .i64 x.sku,.int .i64 x.cat,.int .i64 x.price,.int .i64 x.count]
def Lin.ok(x:Lin):Prop:=I64 x.sku∧I64 x.cat∧I64 x.price∧I64 x.count
theorem Lin.enc_len(x:Lin):x.enc.length=4:=rfl
theorem Lin.enc_plain(x:Lin):pC x.enc=true:=rfl
theorem c4g{h:c9}{d:Nat}{cs:List Value}(hg:a3t Tryz.prog h d 117 cs):∃x:Lin,cs=x.enc∧x.ok:=by
 have hl:a0x Tryz.prog 3 117=some [.int .i64,.int .i64,.int .i64,.int .i64]:=by kernel_rfl
 obtain⟨a0,_,rfl,w0,a1,_,rfl,w1,a2,_,rfl,w2,a3,_,rfl,w3,rfl⟩:=L9 3 hg hl
 exact⟨⟨a0,a1,a2,a3⟩,rfl,C1 w0,C1 w1,C1 w2,C1 w3⟩
structure Sup where
 sku:Int
 price:Int
 count:Int
def Sup.enc(x:Sup):List Value:=[.int .i64 x.sku,.int .i64 x.price,.int .i64 x.count]
def Sup.ok(x:Sup):Prop:=I64 x.sku∧I64 x.price∧I64 x.count
theorem Sup.enc_len(x:Sup):x.enc.length=3:=rfl
theorem Sup.enc_plain(x:Sup):pC x.enc=true:=rfl
theorem c4F{h:c9}{d:Nat}{cs:List Value}(hg:a3t Tryz.prog h d 119 cs):∃x:Sup,cs=x.enc∧x.ok:=by
 have hl:a0x Tryz.prog 3 119=some [.int .i64,.int .i64,.int .i64]:=by kernel_rfl
 obtain⟨a0,_,rfl,w0,a1,_,rfl,w1,a2,_,rfl,w2,rfl⟩:=L9 3 hg hl
 exact⟨⟨a0,a1,a2⟩,rfl,C1 w0,C1 w1,C1 w2⟩
structure Odr where
 day:Int
 A:Option Addr
 c:Nat
 ls:List Lin
 disc:Int
 tax:Int
 ship:Int
def Odr.enc(o:Odr):List Value:=[.int .i64 o.day,.slice o.A o.ls.length o.c,.int .i64 o.disc,.int .i64 o.tax,.int .i64 o.ship]
theorem Odr.enc_len(x:Odr):x.enc.length=5:=rfl
theorem Odr.enc_plain(x:Odr):pC x.enc=true:=rfl
structure Odr.ok(h:c9)(o:Odr):Prop where
 arr:Arr Lin.enc 4 h o.A o.ls
 le:o.ls.length≤o.c
 lt:o.c<9223372036854775808
 ls:∀l∈o.ls,l.ok
 day:I64 o.day
 disc:I64 o.disc
 tax:I64 o.tax
 ship:I64 o.ship
theorem c4k{h:c9}{d:Nat}{cs:List Value}(hg:a3t Tryz.prog h d 86 cs):∃o:Odr,cs=o.enc∧o.ok h:=by
 have hl:a0x Tryz.prog 3 86=some [.int .i64,.slice 117,.int .i64,.int .i64,.int .i64]:=by kernel_rfl
 obtain⟨a0,_,rfl,w0,v,_,rfl,g,a2,_,rfl,w2,a3,_,rfl,w3,a4,_,rfl,w4,rfl⟩:=L9 3 hg hl
 obtain⟨A,c,xs,rfl,ha,h1,h2,h3⟩:=a2c.arr (enc:=Lin.enc) (sz:=4) (by kernel_rfl) (by decide) g c4g
 have hm:maxLen=9223372036854775807:=rfl
 exact⟨⟨a0,A,c,xs,a2,a3,a4⟩,rfl,ha,h1,by show c<_;omega,h3,C1 w0,C1 w2,C1 w3,C1 w4⟩
structure Cfg where
 A1:Option Addr
 c1:Nat
 os:List Odr
 A2:Option Addr
 c2:Nat
 ss:List Sup
 A3:Option Addr
 c3:Nat
 ps:List Pol
def Cfg.enc(C:Cfg):List Value:=[.slice C.A1 C.os.length C.c1,.slice C.A2 C.ss.length C.c2,.slice C.A3 C.ps.length C.c3]
theorem Cfg.enc_len(x:Cfg):x.enc.length=3:=rfl
structure Cfg.rd(h:c9)(C:Cfg):Prop where
 os:Arr Odr.enc 5 h C.A1 C.os
 ls:∀o∈C.os,Arr Lin.enc 4 h o.A o.ls
 ss:Arr Sup.enc 3 h C.A2 C.ss
 ps:Arr Pol.enc 16 h C.A3 C.ps
theorem Cfg.rd.fr{h h':c9}{C:Cfg}(r:C.rd h)(hf:Fr h h' []):C.rd h':=
 ⟨r.os.fr hf (by simp),fun o ho=>(r.ls o ho).fr hf (by simp),r.ss.fr hf (by simp),r.ps.fr hf (by simp)⟩
structure Cfg.wf(C:Cfg):Prop where
 l1:C.os.length≤C.c1
 m1:C.c1<9223372036854775808
 l2:C.ss.length≤C.c2
 m2:C.c2<9223372036854775808
 l3:C.ps.length≤C.c3
 m3:C.c3<9223372036854775808
 ol:∀o∈C.os,o.ls.length≤o.c∧o.c<9223372036854775808
structure Cfg.ok(h:c9)(C:Cfg):Prop where
 rd:C.rd h
 wf:C.wf
theorem c3M{h:c9}{d:Nat}{cs:List Value}(hg:a3t Tryz.prog h d 26 cs):∃C:Cfg,cs=C.enc∧C.ok h:=by
 have hl:a0x Tryz.prog 3 26=some [.slice 86,.slice 119,.slice 83]:=by kernel_rfl
 obtain⟨v1,_,rfl,g1,v2,_,rfl,g2,v3,_,rfl,g3,rfl⟩:=L9 3 hg hl
 have hm:maxLen=9223372036854775807:=rfl
 obtain⟨A1,c1,os,rfl,ha1,p1,q1,k1⟩:=a2c.arr (enc:=Odr.enc) (sz:=5) (ok:=Odr.ok h) (by kernel_rfl) (by decide) g1 c4k
 obtain⟨A2,c2,ss,rfl,ha2,p2,q2,k2⟩:=a2c.arr (enc:=Sup.enc) (sz:=3) (by kernel_rfl) (by decide) g2 c4F
 obtain⟨A3,c3,ps,rfl,ha3,p3,q3,k3⟩:=a2c.arr (enc:=Pol.enc) (sz:=16) (by kernel_rfl) (by decide) g3 c4p
 exact⟨⟨A1,c1,os,A2,c2,ss,A3,c3,ps⟩,rfl,⟨ha1,fun o ho=>(k1 o ho).arr,ha2,ha3⟩,⟨p1,by show c1<_;omega,p2,by show c2<_;omega,p3,by show c3<_;omega,fun o ho=>⟨(k1 o ho).le,(k1 o ho).lt⟩⟩⟩
def H0(n:Int):Prop:=0≤n∧n≤1073741824
def a7E(sku p count:Int):Prop:=(1≤sku∧sku≤1000)∧H0 p∧(1≤count∧count≤50)
def W5(k:Int)(l:Lin):Prop:=a7E l.sku l.price l.count∧0≤l.cat∧l.cat<k
def a0o(ls:List Lin):Int:=(ls.map fun l=>l.price*l.count).sum
def H7(ls:List Lin):Int:=(ls.map Lin.count).sum
def b9R(o:Odr):Prop:=(0≤o.day∧o.day≤100000)∧(1≤o.ls.length∧o.ls.length≤8)∧H0 o.disc∧H0 o.tax∧H0 o.ship
def J6(k:Int)(o:Odr):Prop:=b9R o∧(∀l∈o.ls,W5 k l)∧o.disc≤a0o o.ls
def a6a(s:Sup):Prop:=a7E s.sku s.price s.count
def a7F(ss:List Sup):Prop:=(∀s∈ss,a6a s)∧ss.Pairwise (fun a b=>a.sku≠b.sku)
def a6g(C:Cfg):Int:=(C.os.map fun o=>H7 o.ls).sum+(C.ss.map Sup.count).sum
def K7(C:Cfg):Prop:=a2p C.ps∧C.os.length≤20∧C.ss.length≤20∧(∀o∈C.os,J6 C.ps.length o)∧a7F C.ss∧a6g C≤200
section
variable{h0 h:c9}{l:List HP}
theorem a3l(n:Int)(h:c9):d8 Tryz.prog 179 [.int .i64 n] h fun v h'=>v= .bool (dcd (H0 n))∧h'=h:=by
 by_cases h1:(0:Int)≤n
 ·by_cases h2:n≤1073741824
  ·refine EN i179.eq_1 fun K hK=> ?_
   refine Wc h1 h2 ?_
   exact hK _ _ ⟨by rw[dT ⟨h1,h2⟩],rfl⟩
  ·refine EN i179.eq_1 fun K hK=> ?_
   refine Wc h1 h2 ?_
   exact hK _ _ ⟨by rw[dF (fun h=>h2 h.2)],rfl⟩
 ·refine EN i179.eq_1 fun K hK=> ?_
  refine Wb h1 ?_
  exact hK _ _ ⟨by rw[dF (fun h=>h1 h.1)],rfl⟩
theorem b5C(sku p count:Int)(h:c9):d8 Tryz.prog 123 [.int .i64 sku,.int .i64 p,.int .i64 count] h fun v h'=>v= .bool (dcd (a7E sku p count))∧h'=h:=by
 by_cases h1:(1:Int)≤sku
 case neg=>
  refine EN i123.eq_1 fun K hK=> ?_
  refine Wb h1 ?_
  exact hK _ _ ⟨by rw[dF (fun h=>h1 h.1.1)],rfl⟩
 by_cases h2:sku≤1000
 case neg=>
  refine EN i123.eq_1 fun K hK=> ?_
  refine Wc h1 h2 ?_
  exact hK _ _ ⟨by rw[dF (fun h=>h2 h.1.2)],rfl⟩
 refine EN i123.eq_1 fun K hK=> ?_
 refine Wc h1 h2 ?_
 refine cI (a3l p _) ?_
 rintro _ _ ⟨rfl,rfl⟩
 by_cases h3:H0 p
 case neg=>
  rw[dF h3]
  refine Wa ?_
  exact hK _ _ ⟨by rw[dF (fun h=>h3 h.2.1)],rfl⟩
 rw[dT h3]
 by_cases h4:(1:Int)≤count
 case neg=>
  refine Wb h4 ?_
  exact hK _ _ ⟨by rw[dF (fun h=>h4 h.2.2.1)],rfl⟩
 by_cases h5:count≤50
 case neg=>
  refine Wc h4 h5 ?_
  exact hK _ _ ⟨by rw[dF (fun h=>h5 h.2.2.2)],rfl⟩
 refine Wc h4 h5 ?_
 exact hK _ _ ⟨by rw[dT ⟨⟨h1,h2⟩,h3,h4,h5⟩],rfl⟩
theorem a7A{k:Int}{l:Lin}(hl:W5 k l):0≤l.price*l.count∧l.price*l.count≤53687091200:=by
 obtain⟨⟨_,⟨p0,p1⟩,c0,c1⟩,_⟩:=hl
 refine⟨Int.mul_nonneg p0 (by omega),?_⟩
 have h1:l.price*l.count≤1073741824*l.count:=Int.mul_le_mul_of_nonneg_right p1 (by omega)
 omega
theorem O7{k:Int}:∀{ls:List Lin},(∀l∈ls,W5 k l)→0≤a0o ls∧a0o ls≤53687091200*ls.length∧(ls.length:Int)≤H7 ls∧H7 ls≤50*ls.length
 | [],_=>by simp[a0o,H7]
 |x::ls,h=>by
  have h1:=a7A (h x (by simp))
  obtain⟨⟨_,_,c0,c1⟩,_⟩:=h x (by simp)
  have h2:=O7 (ls:=ls) fun y hy=>h y (by simp[hy])
  unfold a0o H7 at h2⊢
  simp only[G7,K1,l_f]
  omega
theorem b2Y{ls:List Lin}{i:Nat}(hi:i<ls.length):a0o (ls.take (i+1))=a0o (ls.take i)+ls[i].price*ls[i].count:=by
 rw[l_t hi,a0o,L7,a2m]
 simp[a0o]
theorem a3K{ls:List Lin}{i:Nat}(hi:i<ls.length):H7 (ls.take (i+1))=H7 (ls.take i)+ls[i].count:=by
 rw[l_t hi,H7,L7,a2m]
 simp[H7]
end
end
section
set_option maxHeartbeats 8000000
theorem a8z{h0:c9}(o:Odr)(k:Int)(ha:Arr Lin.enc 4 h0 o.A o.ls)(hl:o.ls.length<1000000000):
  d8 Tryz.prog 122 [.agg o.enc.toArray,.int .i64 k] h0 fun v h'=>(∃n:Int,v= .tuple #[.int .i64 n,.bool (dcd (J6 k o))]∧(J6 k o→n=H7 o.ls))∧Fr h0 h' []:=by
 have S:=St.nil h0
 by_cases d1:o.day<0
 ·refine EN i122.eq_1 fun K hK=>Wa ?_
  (revert S;(try clear F);refine AL fun g h S F=> ?_)
  refine Wd F @Odr.enc.eq_1 d1 ?_
  exact hK _ _ ⟨⟨0,by rw[dF (fun h=>by have:=h.1.1.1;omega)],fun h=>by have:=h.1.1.1;omega⟩,S.fr⟩
 by_cases d2:100000<o.day
 ·refine EN i122.eq_1 fun K hK=>Wa ?_
  (revert S;(try clear F);refine AL fun g h S F=> ?_)
  refine We F @Odr.enc.eq_1 d1 d2 ?_
  exact hK _ _ ⟨⟨0,by rw[dF (fun h=>by have:=h.1.1.2;omega)],fun h=>by have:=h.1.1.2;omega⟩,S.fr⟩
 by_cases d3:(o.ls.length:Int)<1
 ·refine EN i122.eq_1 fun K hK=>Wa ?_
  (revert S;(try clear F);refine AL fun g h S F=> ?_)
  refine Wf F @Odr.enc.eq_1 d1 d2 d3 ?_
  exact hK _ _ ⟨⟨0,by rw[dF (fun h=>by have:=h.1.2.1.1;omega)],fun h=>by have:=h.1.2.1.1;omega⟩,S.fr⟩
 by_cases d4:8<(o.ls.length:Int)
 ·refine EN i122.eq_1 fun K hK=>Wa ?_
  (revert S;(try clear F);refine AL fun g h S F=> ?_)
  refine Wg F @Odr.enc.eq_1 d1 d2 d3 d4 ?_
  exact hK _ _ ⟨⟨0,by rw[dF (fun h=>by have:=h.1.2.1.2;omega)],fun h=>by have:=h.1.2.1.2;omega⟩,S.fr⟩
 refine EN i122.eq_1 fun K hK=>Wa ?_
 (revert S;(try clear F);refine AL fun g h S F=> ?_)
 refine Wg F @Odr.enc.eq_1 d1 d2 d3 d4 ?_
 refine cI (a3l _ _) ?_
 rintro _ _ ⟨rfl,rfl⟩
 by_cases d5:H0 o.disc
 case neg=>
  rw[dF d5]
  refine Wa ?_
  exact hK _ _ ⟨⟨0,by rw[dF (fun h=>d5 h.1.2.2.1)],fun h=>(d5 h.1.2.2.1).elim⟩,S.fr⟩
 rw[dT d5]
 refine Wc F @Odr.enc.eq_1 ?_
 refine cI (a3l _ _) ?_
 rintro _ _ ⟨rfl,rfl⟩
 by_cases d6:H0 o.tax
 case neg=>
  rw[dF d6]
  refine Wa ?_
  exact hK _ _ ⟨⟨0,by rw[dF (fun h=>d6 h.1.2.2.2.1)],fun h=>(d6 h.1.2.2.2.1).elim⟩,S.fr⟩
 rw[dT d6]
 refine Wc F @Odr.enc.eq_1 ?_
 refine cI (a3l _ _) ?_
 rintro _ _ ⟨rfl,rfl⟩
 by_cases d7:H0 o.ship
 case neg=>
  rw[dF d7]
  refine Wa ?_
  exact hK _ _ ⟨⟨0,by rw[dF (fun h=>d7 h.1.2.2.2.2)],fun h=>(d7 h.1.2.2.2.2).elim⟩,S.fr⟩
 rw[dT d7]
 have hhead:b9R o:=⟨⟨by omega,by omega⟩,⟨by omega,by omega⟩,d5,d6,d7⟩
 refine Wc F @Odr.enc.eq_1 ?_
 refine lI (fun ρ h'=>ρ 1= .int .i64 k∧ρ 2= .pointer (some ⟨g,0,none⟩)∧ρ 49= .slice o.A o.ls.length o.c∧ρ 50= .int .i64 o.ls.length∧∃i:Nat,ρ 51= .int .i64 i∧i≤o.ls.length∧(∀l∈o.ls.take i,W5 k l)∧ρ 6= .int .i64 (H7 (o.ls.take i))∧ρ 7= .int .i64 (a0o (o.ls.take i))∧
  St h0 h' [d9 g o.enc 86]) (fun ρ _=>o.ls.length-(iv (ρ 51)).toNat) ?_ ?_
 ·refine Wa ?_
  exact⟨0,rfl,by omega,by simp,rfl,rfl,S⟩
 clear S F
 rintro ρ h J hJ ⟨e1,e2,e49,e50,i,e51,hi,hok,e6,e7,S⟩
 refine Wc e50 e51 ?_
 refine cD (fun hlt=> ?_) (fun hlt=> ?_)
 ·have hil:i<o.ls.length:=by omega
  obtain⟨b,off,hA,hr1⟩:=(ha.fr S.fr (by simp)).at hil
  have hlb:=O7 hok
  have hlen:(o.ls.take i).length≤8:=by rw[x4];omega
  have hmem:=l_v hil
  have hs1:=b2Y hil
  have hs2:=a3K hil
  have hbad:¬W5 k o.ls[i]→¬J6 k o:=fun hn h=>hn (h.2.1 _ hmem)
  have htk:W5 k o.ls[i]→∀l∈o.ls.take (i+1),W5 k l:=fun hx l hl=>by
   rw[l_t hil]at hl
   rcases List.mem_append.1 hl with hl|hl
   ·exact hok l hl
   ·rw[U1]at hl;rw[hl];exact hx
  generalize o.ls[i]=x at*
  refine We e49 e51 hA hr1 ?_
  (revert S;(try clear F);refine AL fun q h S F=> ?_)
  refine Wc F @Lin.enc.eq_1 ?_
  (revert S;(try clear F);refine ST fun h S F=> ?_)
  refine Wb F ?_
  refine cI (b5C _ _ _ _) ?_
  rintro _ _ ⟨rfl,rfl⟩
  by_cases c1:a7E x.sku x.price x.count
  case neg=>
   rw[dF c1]
   refine Wa ?_
   exact hK _ _ ⟨⟨0,by rw[dF (hbad fun h=>c1 h.1)],fun h=>(hbad (fun h=>c1 h.1) h).elim⟩,S.fr⟩
  rw[dT c1]
  by_cases c2:x.cat<0
  ·refine Wc F c2 ?_
   exact hK _ _ ⟨⟨0,by rw[dF (hbad fun h=>by have:=h.2.1;omega)],fun h=>(hbad (fun h=>by have:=h.2.1;omega) h).elim⟩,S.fr⟩
  by_cases c3:k≤x.cat
  ·refine We F c2 e1 c3 ?_
   exact hK _ _ ⟨⟨0,by rw[dF (hbad fun h=>by have:=h.2.2;omega)],fun h=>(hbad (fun h=>by have:=h.2.2;omega) h).elim⟩,S.fr⟩
  have hx:W5 k x:=⟨c1,by omega,by omega⟩
  have hxb:=a7A hx
  have w1:IntKind.i64.wrap (H7 (o.ls.take i)+x.count)=H7 (o.ls.take i)+x.count:=by
   have:=c1.2.2
   exact u5 (by omega) (by omega)
  have w2:IntKind.i64.wrap (x.price*x.count)=x.price*x.count:=u5 (by omega) (by omega)
  have w3:IntKind.i64.wrap (a0o (o.ls.take i)+x.price*x.count)=a0o (o.ls.take i)+x.price*x.count:=u5 (by omega) (by omega)
  refine Wi F c2 e1 c3 e6 e7 w1 (Pd w2 w3 e51) ?_
  refine hJ _ _ ?_ ?_
  ·refine Wf e1 e2 e49 e50 hA ?_
   exact⟨i+1,rfl,by omega,htk hx,by rw[hs2],by rw[hs1],S.tl⟩
  ·refine Wb e51 ?_
   omega
 ·obtain rfl:i=o.ls.length:=by omega
  rw[C9]at hok e6 e7
  ((try clear F);have F:=S.fx)
  refine Wa ?_
  refine dE ?_
  refine Wf e2 e6 e7 F @Odr.enc.eq_1 ?_
  refine hK _ _ ⟨⟨_,congrArg (fun b=>Value.tuple #[.int .i64 (H7 o.ls),.bool b]) (congrArg dcd (propext ⟨fun h=>⟨hhead,hok,h⟩,fun h=>h.2.2⟩)),fun _=>rfl⟩,S.fr⟩
end
end Go.Proofs.YtjagmebglhbdkaaGreat.MX
