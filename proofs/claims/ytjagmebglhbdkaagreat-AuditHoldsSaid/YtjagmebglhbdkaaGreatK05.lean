import Derived.Test.YtjagmebglhbdkaaGreatK04
import Derived.Scope
namespace Go.Proofs.YtjagmebglhbdkaaGreat.MX
open Go Go.Proofs
set_option linter.unusedSimpArgs false
set_option linter.unusedVariables false
section
variable{P:Program}{N:Nat}
section
variable(P:Program)(ops:Array Oper)(Q:Exit→Act→World→Prop)(S:World→Prop)(rd need:Nat→Bool)
def a6p(listed:Array Bool):Prop:=∃i,rd i=true∧listed.getD i true=false
def Gd:Nat→Array Bool→Act→World→Prop
 |0,listed,a,w=>Region.ready .any ops listed=[]∧Q .normal a w
 |n+1,listed,a,w=>(Region.ready .any ops listed=[]→Q .normal a w)∧
   ∀i∈Region.ready .any ops listed,wpOp P ops Q i (fun a' w'=>(need i=true→S w→S w')∧Gd n (listed.setIfInBounds i true) a' w') a w
def a0m(listed:Array Bool):Prop:=∀(j:Nat) (o:Oper),ops[j]? =some o→listed.getD j false=true→∀e∈o.after,Region.binds .any e=true→listed.getD e.on false=true
end
variable{ops:Array Oper}{Q:Exit→Act→World→Prop}{S:World→Prop}{rd need:Nat→Bool}
theorem Gd.any:∀(n:Nat) (listed:Array Bool) (a:Act) (w:World),Gd P ops Q S need n listed a w→wpAny P .any ops Q n listed a w
 |0,_,_,_,h=>h
 |n+1,_,_,_,h=>⟨h.1,fun i hi=>wpOp_mono (fun a' w' h'=>Gd.any n _ a' w' h'.2) (h.2 i hi)⟩
theorem a4R(i:Nat){listed:Array Bool}(hc:a0m ops listed):∀(n j:Nat),
  (∃o,ops[j]? =some o∧∀e∈o.after,Region.binds .any e=true→listed.getD e.on false=true)→a4a ops.toList i n j=true→listed.getD i false=true
 |0,_,_,h=>by cases h
 |n+1,j,⟨o,ho,hall⟩,h=>by
  simp only[a4a,a5u,ho]at h
  rw[List.any_eq_true]at h
  obtain⟨e,he,h⟩:=h
  simp only[a1P,Bool.or_eq_true,beq_iff_eq]at h
  have hl:=hall e (by simpa using he) h.1
  rcases h.2 with h2|h2
  ·rw[←h2];exact hl
  ·have hex:∃o',ops[e.on]? =some o':=by
    cases n with
    |zero=>cases h2
    |succ n=>
     unfold a4a at h2
     rw[a5u]at h2
     cases ho':ops[e.on]? with
     |none=>rw[ho']at h2;cases h2
     |some o'=>exact⟨o',rfl⟩
   obtain⟨o',ho'⟩:=hex
   exact a4R i hc n e.on ⟨o',ho',fun e' he' hb'=>hc e.on o' ho' hl e' he' hb'⟩ h2
theorem a0m.set{listed:Array Bool}(hc:a0m ops listed){i:Nat}(hi:i∈Region.ready .any ops listed):a0m ops (listed.setIfInBounds i true):=by
 intro j o ho hl e he hb
 by_cases hji:j=i
 ·subst hji
  obtain⟨_,o',ho',hall⟩:=mem_ready.1 hi
  rw[ho]at ho'
  cases ho'
  exact getD_set_true (hall e he hb)
 ·rw[getD_set_ne false (Ne.symm hji)]at hl
  exact getD_set_true (hc j o ho hl e he hb)
def a9R(ops:Array Oper)(rd need:Nat→Bool):Prop:=∀i j,rd i=true→i≠j→a4a ops.toList i ops.size j=false→need j=true
theorem b5k{listed:Array Bool}(hc:a0m ops listed)(hh:a9R ops rd need){i j:Nat}(hi:rd i=true)(hu:listed.getD i true=false)(hij:i≠j)(hj:j∈Region.ready .any ops listed):need j=true:=by
 obtain⟨_,o,ho,hall⟩:=mem_ready.1 hj
 refine hh i j hi hij ?_
 cases hr:a4a ops.toList i ops.size j with
 |false=>rfl
 |true=>
  have:=a4R i hc ops.size j ⟨o,ho,hall⟩ hr
  have h2:listed.getD i false=false:=by
   rcases Nat.lt_or_ge i listed.size with h'|h'
   ·simp[a2k,h']at hu⊢;exact hu
   ·simp[a2k,Array.getElem?_eq_none h']at hu
  rw[h2]at this
  cases this
theorem Gd.first{i:Nat}{oi:Oper}{v:Value}(hi:ops[i]? =some oi)(hri:rd i=true)(hh:a9R ops rd need)(hsel:∀(j:Nat) (o:Oper) cs b,ops[j]? =some o→o.op≠ .select cs b)
  (hQ:∀c a w,¬Q (.panic c) a w):
  ∀(n:Nat) (listed:Array Bool) (a:Act) (w:World),a0m ops listed→
   (∀j oj,ops[j]? =some oj→j≠i→listed.getD j true=false→(∀e∈oj.after,Region.binds .any e=true→e.on≠i)→oi.apart ops oj=true)→
   i∈Region.ready .any ops listed→YieldsIf P ops S oi v a→S w→
   Gd P ops Q S need n (listed.setIfInBounds i true) (a.put oi.dst v) w→Gd P ops Q S need (n+1) listed a w:=by
 intro n
 induction n with
 |zero=>
  intro listed a w hc hap hr hy hS H
  refine⟨fun h=>(by rw[h]at hr;cases hr),fun j hj=> ?_⟩
  by_cases hji:j=i
  ·subst hji;exact hy.wpOp hi hS ⟨fun _ h=>h,H⟩
  ·have:=ready_mono hj hji
   rw[H.1]at this
   cases this
 |succ n ih=>
  intro listed a w hc hap hr hy hS H
  refine⟨fun h=>(by rw[h]at hr;cases hr),fun j hj=> ?_⟩
  by_cases hji:j=i
  ·subst hji;exact hy.wpOp hi hS ⟨fun _ h=>h,H⟩
  ·have h1:=H.2 j (ready_mono hj hji)
   obtain⟨hju,oj,hoj,hall⟩:=mem_ready.1 hj
   have hui:=(mem_ready.1 hr).1
   have hnot:∀e∈oj.after,Region.binds .any e=true→e.on≠i:=fun e he hb heq=>by
    have h2:=hall e he hb
    rw[heq]at h2
    rcases Nat.lt_or_ge i listed.size with h'|h'
    ·simp[a2k,h']at hui h2;rw[hui]at h2;cases h2
    ·simp[a2k,Array.getElem?_eq_none h']at hui
   have h2:=wpOp_putIf hoj (hap j oj hoj hji hju hnot) (fun cs b=>hsel i oi cs b hi) (fun cs b=>hsel j oj cs b hoj) (fun c a w h=>(hQ _ _ _ h).elim) hy h1
   have hnd:need j=true:=b5k hc hh hri hui (Ne.symm hji) hj
   refine wpOp_mono (fun a' w' h3=> ?_) h2
   refine⟨h3.2.1,?_⟩
   refine ih (listed.setIfInBounds j true) a' w' (hc.set hj) ?_ (ready_mono hr (Ne.symm hji)) h3.1 (h3.2.1 hnd hS) ?_
   ·intro k ok hk hki hun hno
    refine hap k ok hk hki ?_ hno
    by_cases hjk:j=k
    ·subst hjk;exact hju
    ·rw[getD_set_ne true hjk]at hun;exact hun
   ·rw[Array.setIfInBounds_comm _ _ hji]
    exact h3.2.2
theorem Gd.firstP{i:Nat}{oi:Oper}{v:Value}(hi:ops[i]? =some oi)(hsel:∀(j:Nat) (o:Oper) cs b,ops[j]? =some o→o.op≠ .select cs b)
  (hQ:∀c a w,¬Q (.panic c) a w):
  ∀(n:Nat) (listed:Array Bool) (a:Act) (w:World),a0m ops listed→
   (∀j oj,ops[j]? =some oj→j≠i→listed.getD j true=false→(∀e∈oj.after,Region.binds .any e=true→e.on≠i)→oi.apart ops oj=true)→
   i∈Region.ready .any ops listed→YieldsIf P ops (fun _=>True) oi v a→
   Gd P ops Q S need n (listed.setIfInBounds i true) (a.put oi.dst v) w→Gd P ops Q S need (n+1) listed a w:=by
 intro n
 induction n with
 |zero=>
  intro listed a w hc hap hr hy H
  refine⟨fun h=>(by rw[h]at hr;cases hr),fun j hj=> ?_⟩
  by_cases hji:j=i
  ·subst hji;exact hy.wpOp hi trivial ⟨fun _ h=>h,H⟩
  ·have:=ready_mono hj hji
   rw[H.1]at this
   cases this
 |succ n ih=>
  intro listed a w hc hap hr hy H
  refine⟨fun h=>(by rw[h]at hr;cases hr),fun j hj=> ?_⟩
  by_cases hji:j=i
  ·subst hji;exact hy.wpOp hi trivial ⟨fun _ h=>h,H⟩
  ·have h1:=H.2 j (ready_mono hj hji)
   obtain⟨hju,oj,hoj,hall⟩:=mem_ready.1 hj
   have hui:=(mem_ready.1 hr).1
   have hnot:∀e∈oj.after,Region.binds .any e=true→e.on≠i:=fun e he hb heq=>by
    have h2:=hall e he hb
    rw[heq]at h2
    rcases Nat.lt_or_ge i listed.size with h'|h'
    ·simp[a2k,h']at hui h2;rw[hui]at h2;cases h2
    ·simp[a2k,Array.getElem?_eq_none h']at hui
   have h2:=wpOp_putIf hoj (hap j oj hoj hji hju hnot) (fun cs b=>hsel i oi cs b hi) (fun cs b=>hsel j oj cs b hoj) (fun c a w h=>(hQ _ _ _ h).elim) hy h1
   refine wpOp_mono (fun a' w' h3=> ?_) h2
   refine⟨h3.2.1,?_⟩
   refine ih (listed.setIfInBounds j true) a' w' (hc.set hj) ?_ (ready_mono hr (Ne.symm hji)) h3.1 ?_
   ·intro k ok hk hki hun hno
    refine hap k ok hk hki ?_ hno
    by_cases hjk:j=k
    ·subst hjk;exact hju
    ·rw[getD_set_ne true hjk]at hun;exact hun
   ·rw[Array.setIfInBounds_comm _ _ hji]
    exact h3.2.2
theorem a4Q{listed:List Bool}{i:Nat}:b3P ops.toList listed i=true↔i∈Region.ready .any ops listed.toArray:=by
 rw[mem_ready]
 unfold b3P
 simp only[a5u,a1P,Bool.not_eq_true']
 have e1:∀d,listed.toArray.getD i d=listed.getD i d:=fun d=>by simp[l_s,a2k]
 rw[e1]
 constructor
 ·rintro⟨h1,h2⟩
  refine⟨h1,?_⟩
  cases ho:ops[i]? with
  |none=>rw[ho]at h2;cases h2
  |some o=>
   rw[ho]at h2
   simp only[List.all_eq_true]at h2
   refine⟨o,rfl,fun e he hb=> ?_⟩
   have:=h2 e (by simpa using he)
   simp only[hb,Bool.not_true,Bool.false_or]at this
   simpa[l_s,a2k]using this
 ·rintro⟨h1,o,ho,h2⟩
  refine⟨h1,?_⟩
  rw[ho]
  simp only[List.all_eq_true]
  intro e he
  cases hb:Region.binds .any e with
  |false=>rfl
  |true=>
   have:=h2 e (by simpa using he) hb
   simp only[Bool.not_true,Bool.false_or]
   simpa[l_s,a2k]using this
theorem a9W{listed:List Bool}(h:a6T ops.toList listed=false):Region.ready .any ops listed.toArray=[]:=by
 apply List.eq_nil_iff_forall_not_mem.2
 intro i hi
 have h1:=a4Q.2 hi
 have hlt:i<ops.toList.length:=by
  obtain⟨_,o,ho,_⟩:=mem_ready.1 hi
  rcases Nat.lt_or_ge i ops.size with h'|h'
  ·simpa using h'
  ·rw[Array.getElem?_eq_none h']at ho;cases ho
 have:a6T ops.toList listed=true:=List.any_eq_true.2 ⟨i,List.mem_range.2 hlt,h1⟩
 rw[h]at this
 cases this
theorem b1g{listed:List Bool}(h:a6T ops.toList listed=true):Region.ready .any ops listed.toArray≠[]:=by
 obtain⟨i,_,hi⟩:=List.any_eq_true.1 h
 intro h0
 have:=a4Q.1 hi
 rw[h0]at this
 cases this
theorem a5T{listed:List Bool}{i:Nat}{o:Oper}:∀(l:List Oper) (k:Nat),a6U ops.toList listed i o k l=true→
  ∀j oj,l[j]? =some oj→k+j≠i→listed.getD (k+j) true=false→(∀e∈oj.after,Region.binds .any e=true→e.on≠i)→o.apart ops oj=true
 | [],k,_,j,oj,hj,_,_,_=>by simp at hj
 |p::ps,k,h,j,oj,hj,hne,hun,hno=>by
  simp only[a6U,a1P]at h
  cases j with
  |zero=>
   simp only[l_o,Option.some.injEq]at hj
   subst hj
   have h1:=h.1
   simp only[Bool.or_eq_true,beq_iff_eq]at h1
   rcases h1 with((h1|h1)|h1)|h1
   ·exact absurd (by simpa using h1) hne
   ·simp only[H8]at hun;rw[hun]at h1;cases h1
   ·obtain⟨e,he,h2⟩:=List.any_eq_true.1 h1
    simp only[a1P,beq_iff_eq]at h2
    exact absurd h2.2 (hno e (by simpa using he) h2.1)
   ·simpa using h1
  |succ j=>
   simp only[l_p]at hj
   exact a5T ps (k+1) h.2 j oj hj (by omega) (by rw[show k+1+j=k+(j+1) by omega];exact hun) hno
theorem a2u{all:List Oper}:∀(l:List Oper) (ms:List j1),a1D P N all l=some ms→ms.length=l.length∧
  ∀(i:Nat) (o:Oper),l[i]? =some o→∃m g,a5j P N o=some m∧b0l N all o.guard=some g∧ms[i]? =some ⟨o.dst,m,g⟩∧b4J N o.dst=true
 | [],ms,h=>by cases h;exact⟨rfl,fun i o h=>by simp at h⟩
 |o::os,ms,h=>by
  simp only[a1D]at h
  split at h
  case isFalse=>cases h
  rename_i hdst
  obtain⟨m,hm,h⟩:=bV h
  obtain⟨g,hg,h⟩:=bV h
  obtain⟨mr,hr,h⟩:=bV h
  cases h
  obtain⟨hl,hget⟩:=a2u os mr hr
  refine⟨by simp[hl],fun i o' ho'=> ?_⟩
  cases i with
  |zero=>simp at ho';subst ho';exact⟨m,g,hm,hg,rfl,hdst⟩
  |succ i=>simp at ho';exact hget i o' ho'
theorem a3V{ms:List j1}{listed:List Bool}:∀(l:List Nat) (i:Nat),b2g ops.toList ms listed l=some i→
  ∃o m,ops.toList[i]? =some o∧ms[i]? =some m∧b3P ops.toList listed i=true∧a9i m.op=false∧a6U ops.toList listed i o 0 ops.toList=true
 | [],i,h=>by cases h
 |j::js,i,h=>by
  simp only[b2g]at h
  split at h
  ·rename_i o m ho hm
   split at h
   ·rename_i hc
    cases h
    simp only[a1P,Bool.not_eq_true']at hc
    exact⟨o,m,ho,hm,hc.1.1,hc.1.2,hc.2⟩
   ·exact a3V js i h
  ·exact a3V js i h
theorem a6Q{Sh:c9→Prop}{ms:List j1}{listed:List Bool}{K:Env→c9→Prop}{k:List Bool→Sch}{ρ:Env}{h:c9}:∀(l:List Nat),I5 P Sh ms K (b8c ops.toList ms listed k l) ρ h→
  ∀i∈l,b3P ops.toList listed i=true→∃o,ms[i]? =some o∧
   M6 (P5 ρ o.guard) (o.op.wp P ρ h fun v h'=>(b5j ops.toList ms i=true→Sh h')∧I5 P Sh ms K (k (listed.set i true)) (N5 ρ o.dst v) h') (I5 P Sh ms K (k (listed.set i true)) (N5 ρ o.dst undef) h)
 | [],_,i,hi,_=>by cases hi
 |j::js,hw,i,hi,hr=>by
  simp only[b8c]at hw
  split at hw
  ·rename_i hj
   simp only[I5]at hw
   rcases List.mem_cons.1 hi with rfl|hi
   ·have h1:=hw.1
    split at h1
    ·rename_i o ho;exact⟨o,ho,h1⟩
    ·exact h1.elim
   ·exact a6Q js hw.2 i hi hr
  ·rename_i hj
   rcases List.mem_cons.1 hi with rfl|hi
   ·exact absurd hr hj
   ·exact a6Q js hw i hi hr
theorem b3k{ds:List Deferred}{w0:World}{Qm:D6→Env→c9→Prop}{Sh:c9→Prop}{ms:List j1}(hc:a1D P N ops.toList ops.toList=some ms)
  (hsel:∀(j:Nat) (o:Oper) cs b,ops[j]? =some o→o.op≠ .select cs b)
  (hrd:rd=fun i=>match ms[i]? with|some m=>c2m m.op|none=>false) (hnd:need=fun i=>b5j ops.toList ms i) (hh:a9R ops rd need):
  ∀(n:Nat) (listed:List Bool) (a:Act) (ρ:Env) (w:World),Rel N a ρ→a.defers=ds→M4 w0 w→a0m ops listed.toArray→(a6p rd listed.toArray→Sh w.heap)→
   I5 P Sh ms (fun ρ h=>Qm .normal ρ h) (a9p ops.toList ms n listed) ρ w.heap→
   Gd P ops (b1O N ds w0 Qm) (fun w=>Sh w.heap) need n listed.toArray a w:=by
 obtain⟨hlen,hget⟩:=a2u _ _ hc
 intro n
 induction n with
 |zero=>
  intro listed a ρ w hrel hd ha hcl hS h
  simp only[a9p]at h
  split at h
  ·exact h.elim
  ·rename_i hr
   exact⟨a9W (by simpa using hr),hd,ha,ρ,hrel,h⟩
 |succ n ih=>
  intro listed a ρ w hrel hd ha hcl hS h
  have hset:∀i,(listed.set i true).toArray=listed.toArray.setIfInBounds i true:=fun i=>by simp
  simp only[a9p]at h
  split at h
  ·rename_i i hp
   obtain⟨o,m0,ho,hm0,hrdy,heff,hap⟩:=a3V _ _ hp
   obtain⟨m,g,hm,hg,hmi,hdst⟩:=hget i o ho
   rw[hmi]at hm0
   cases hm0
   have ho':ops[i]? =some o:=by rw[←a5u];exact ho
   have hrdy':=a4Q.1 hrdy
   have hui:=(mem_ready.1 hrdy').1
   have hS':a6p rd (listed.set i true).toArray→Sh w.heap:=by
    rintro⟨r,hr,hu⟩
    rw[hset]at hu
    by_cases hri:r=i
    ·exact hS ⟨i,by rw[←hri];exact hr,hui⟩
    ·rw[getD_set_ne true (Ne.symm hri)]at hu
     exact hS ⟨r,hr,hu⟩
   have hcl':a0m ops (listed.set i true).toArray:=by rw[hset];exact hcl.set hrdy'
   have hap':∀j oj,ops[j]? =some oj→j≠i→listed.toArray.getD j true=false→(∀e∈oj.after,Region.binds .any e=true→e.on≠i)→o.apart ops oj=true:=by
    intro j oj hoj hji hun hno
    refine a5T ops.toList 0 hap j oj (by rw[a5u];exact hoj) (by omega) ?_ hno
    simpa[l_s,a2k]using hun
   have hnp:∀c a w,¬b1O N ds w0 Qm (.panic c) a w:=fun _ _ _ h=>h
   simp only[I5,hmi,M6]at h
   split at h
   ·rename_i hw
    have hwant:Region.wanted o (yielded ops a.tmps)=true:=by rw[a0a hrel hg];exact hw
    split at h
    ·rename_i x
     obtain⟨v,hv,h⟩:=H6 h
     refine Gd.firstP (v:=v) ho' hsel hnp n _ a w hcl hap' hrdy' (.inl ⟨hwant,fun w' _=>a4n hrel hm heff hv⟩) ?_
     rw[←hset]
     exact ih _ _ _ w (hrel.put _ hdst _) (by rw[S6];exact hd) ha hcl' hS' h
    ·rename_i x
     obtain⟨v,hv,h⟩:=h
     have hri:rd i=true:=by rw[hrd];simp[hmi,c2m]
     have hSw:Sh w.heap:=hS ⟨i,hri,hui⟩
     refine Gd.first (v:=v) ho' hri hh hsel hnp n _ a w hcl hap' hrdy' (.inl ⟨hwant,fun w' hw'=>a4n hrel hm heff (hv _ hw')⟩) hSw ?_
     rw[←hset]
     exact ih _ _ _ w (hrel.put _ hdst _) (by rw[S6];exact hd) ha hcl' hS' h
    ·exact h.elim
   ·rename_i hw
    have hwant:Region.wanted o (yielded ops a.tmps)=false:=by rw[a0a hrel hg];simpa using hw
    refine Gd.firstP (v:=undef) ho' hsel hnp n _ a w hcl hap' hrdy' (.inr ⟨hwant,rfl⟩) ?_
    rw[←hset]
    exact ih _ _ _ w (hrel.put _ hdst _) (by rw[S6];exact hd) ha hcl' hS' h
  ·split at h
   ·rename_i hany
    refine⟨fun h0=>absurd h0 (b1g hany),fun i hi=> ?_⟩
    obtain⟨hui,o,ho,_⟩:=mem_ready.1 hi
    have hlt:i<ops.toList.length:=by
     rcases Nat.lt_or_ge i ops.size with h'|h'
     ·simpa using h'
     ·rw[Array.getElem?_eq_none h']at ho;cases ho
    obtain⟨mo,hmo,h1⟩:=a6Q _ h i (List.mem_range.2 hlt) (a4Q.2 hi)
    obtain⟨m,g,hm,hg,hmi,hdst⟩:=hget i o (by rw[a5u];exact ho)
    rw[hmi]at hmo
    cases hmo
    have hcl':a0m ops (listed.set i true).toArray:=by rw[hset];exact hcl.set hi
    have hread:a6p rd (listed.set i true).toArray→a6p rd listed.toArray∧need i=true:=by
     rintro⟨r,hr,hu⟩
     rw[hset]at hu
     have hri:r≠i:=by
      rintro rfl
      rcases Nat.lt_or_ge r listed.toArray.size with h'|h'
      ·simp only[a2k,Array.getElem?_setIfInBounds,if_true,if_pos h',Option.getD_some]at hu
       cases hu
      ·simp[a2k,Array.getElem?_eq_none h']at hui
     rw[getD_set_ne true (Ne.symm hri)]at hu
     exact⟨⟨r,hr,hu⟩,b5k hcl hh hr hu hri hi⟩
    unfold wpOp
    simp only[ho]
    rw[a0a hrel hg]
    simp only[M6]at h1
    split
    ·rename_i hw
     rw[if_pos hw]at h1
     refine .inl (C4.wp (a4o hrel hm h1) fun v w' ha' hk=>⟨fun hn _=>hk.1 (by rw[hnd]at hn;exact hn),?_⟩)
     rw[←hset]
     refine ih _ _ _ w' (hrel.put _ hdst _) (by rw[S6];exact hd) (ha.trans ha') hcl' (fun hr=> ?_) hk.2
     have:=(hread hr).2
     rw[hnd]at this
     exact hk.1 this
    ·rename_i hw
     rw[if_neg hw]at h1
     refine⟨fun _ h=>h,?_⟩
     rw[←hset]
     exact ih _ _ _ w (hrel.put _ hdst _) (by rw[S6];exact hd) ha hcl' (fun hr=>hS (hread hr).1) h1
   ·exact h.elim
end
section
variable{P:Program}{N:Nat}
theorem b1P{ds:List Deferred}{w0:World}{k:Env→c9→Prop}{Q:D6→Env→c9→Prop}{next:Act→World→Prop}{e:Exit}{a:Act}{w:World}
  (hn:∀a w ρ,Rel N a ρ→a.defers=ds→M4 w0 w→k ρ w.heap→next a w) (h:b1O N ds w0 (V0 k Q) e a w):Exit.then next (b1O N ds w0 Q) e a w:=by
 cases e with
 |normal=>obtain⟨hd,ha,ρ,hr,hk⟩:=h;exact hn a w ρ hr hd ha hk
 |exit id=>exact h
 |ret=>exact h
 |goto l=>exact h.elim
 |panic c=>exact h.elim
 |outgrown=>exact h.elim
theorem b9r{ds:List Deferred}{w0:World}{id:Nat}{Q:D6→Env→c9→Prop}{e:Exit}{a:Act}{w:World}(h:b1O N ds w0 (a2N id Q) e a w):Exit.inBlock id (b1O N ds w0 Q) e a w:=by
 cases e with
 |normal=>exact h
 |exit id'=>
  obtain⟨hd,ha,ρ,hr,hk⟩:=h
  simp only[a2N]at hk
  simp only[Exit.inBlock]
  split
  ·rename_i he;rw[if_pos he]at hk;exact⟨hd,ha,ρ,hr,hk⟩
  ·rename_i he;rw[if_neg he]at hk;exact⟨hd,ha,ρ,hr,hk⟩
 |ret=>exact h
 |goto l=>exact h.elim
 |panic c=>exact h.elim
 |outgrown=>exact h.elim
theorem b6P{ops:Array Oper}{ms:List j1}(hl:ms.length=ops.toList.length):a9R ops (fun i=>match ms[i]? with|some m=>c2m m.op|none=>false) (fun i=>b5j ops.toList ms i):=by
 intro i j hr hij hre
 dsimp only at hr⊢
 have hlt:i<ms.length:=by
  rcases Nat.lt_or_ge i ms.length with h|h
  ·exact h
  ·simp[Y1 h]at hr
 refine List.any_eq_true.2 ⟨i,List.mem_range.2 hlt,?_⟩
 cases hm:ms[i]? with
 |none=>rw[hm]at hr;cases hr
 |some m=>
  rw[hm]at hr
  simp only[a1P,Bool.not_eq_true',bne_iff_ne,ne_eq]at hr⊢
  refine⟨⟨hr,hij⟩,?_⟩
  simpa using hre
theorem b3h:∀(c:Code) {ds:List Deferred}{w0:World}{Q:D6→Env→c9→Prop}{a:Act}{ρ:Env}{w:World},Rel N a ρ→a.defers=ds→M4 w0 w→
  mwp P (a2s P N c) Q ρ w.heap→c.wp P (b1O N ds w0 Q) a w:=by
 intro c
 induction c with
 |skip=>intro ds w0 Q a ρ w hr hd ha h;exact wp_skip ⟨hd,ha,ρ,hr,h⟩
 |region id ops draw=>
  intro ds w0 Q a ρ w hr hd ha h
  simp only[a2s]at h
  split at h
  ·rename_i ms hc
   split at h
   ·rename_i hdr
    subst hdr
    split at h
    ·rename_i hok
     simp only[a1P]at hok
     obtain⟨S,hS,h⟩:=h
     obtain⟨hl,_⟩:=a2u _ _ hc
     refine wp_region_any hok.2 ?_
     have hsel:∀(j:Nat) (o:Oper) cs b,ops[j]? =some o→o.op≠ .select cs b:=by
      intro j o cs b ho heq
      have hm:o∈ops.toList:=by
       rw[←a5u]at ho
       exact List.mem_of_getElem? ho
      have:=List.all_eq_true.1 hok.1 o hm
      obtain⟨d,op,ty,ps,af,g⟩:=o
      subst heq
      cases this
     have hcl:a0m ops (List.replicate ops.toList.length false).toArray:=by
      intro j o ho hl
      exfalso
      rcases Nat.lt_or_ge j ops.size with h'|h'
      ·simp[a2k,h']at hl
      ·simp[a2k,Array.getElem?_eq_none h']at hl
       rw[Array.getElem?_eq_none h']at ho
       cases ho
     have:=Gd.any _ _ _ _ (b3k (w0:=w0) (ds:=ds) (Qm:=Q) (Sh:=S) hc hsel rfl rfl (b6P hl) ops.toList.length (List.replicate ops.toList.length false) a ρ w.drew hr hd ⟨ha.1,ha.2.1,ha.2.2⟩ hcl (fun _=>hS) h)
     simpa using this
    ·exact h.elim
   ·rename_i hdr
    obtain rfl:draw=false:=by simpa using hdr
    exact wp_region_list (a5C _ _ _ _ _ hr hd ha hc h)
  ·exact h.elim
 |seq x y ihx ihy=>
  intro ds w0 Q a ρ w hr hd ha h
  refine wp_seq (wp_mono (ihx hr hd ha h) fun e a' w' h'=> ?_)
  exact b1P (fun a w ρ hr hd ha hk=>ihy hr hd ha hk) h'
 |cond cc x y ihx ihy=>
  intro ds w0 Q a ρ w hr hd ha h
  simp only[a2s]at h
  split at h
  ·rename_i c' hc
   simp only[mwp,a0r]at h
   have he:=n6 hr hc
   split at h
   ·rename_i b hb
    refine wp_cond (t:=b) (by rw[he,hb]) ?_
    cases b with
    |true=>exact ihx hr hd ha (by simpa using h)
    |false=>exact ihy hr hd ha (by simpa using h)
   ·exact h.elim
  ·exact h.elim
 |block id x ih=>
  intro ds w0 Q a ρ w hr hd ha h
  exact wp_block (wp_mono (ih hr hd ha h) fun e a' w' h'=>b9r h')
 |loop x ih=>
  intro ds w0 Q a ρ w hr hd ha h
  obtain⟨I,μ,h0,hround⟩:=h
  have hρ:∀{a:Act}{ρ:Env},Rel N a ρ→ρ=fun t=>a.tmps.getD t undef:=fun h=>funext fun t=>(h.get t).symm
  refine wp_loop (fun a w=>a.defers=ds∧M4 w0 w∧a.tmps.size=N∧I (fun t=>a.tmps.getD t undef) w.heap)
   (fun a w=>μ (fun t=>a.tmps.getD t undef) w.heap) ⟨hd,ha,hr.size,by rw[←hρ hr];exact h0⟩ ?_
  rintro a1 w1 ⟨hd1,ha1,hs1,hI1⟩
  have hr1:Rel N a1 (fun t=>a1.tmps.getD t undef):=⟨hs1,fun _=>rfl⟩
  refine wp_mono (ih hr1 hd1 ha1 (hround _ _ hI1)) fun e a' w' h'=> ?_
  refine b1P (fun a2 w2 ρ2 hr2 hd2 ha2 hk=> ?_) h'
  have:=hρ hr2
  subst this
  exact⟨⟨hd2,ha2,hr2.size,hk.1⟩,hk.2⟩
 |exit id=>intro ds w0 Q a ρ w hr hd ha h;exact wp_exit ⟨hd,ha,ρ,hr,h⟩
 |ret=>intro ds w0 Q a ρ w hr hd ha h;exact wp_ret ⟨hd,ha,ρ,hr,h⟩
 |rangeFunc f ps aq b _ _=>intro ds w0 Q a ρ w hr hd ha h;exact h.elim
 |scope b ih=>
  intro ds w0 Q a ρ w hr hd ha h
  refine wp_scope_straight (wp_mono (ih hr hd ha h) fun e a' w' h'=> ?_)
  cases e with
  |goto l=>exact h'.elim
  |normal=>exact h'
  |exit id=>exact h'
  |ret=>exact h'
  |panic c=>exact h'
  |outgrown=>exact h'
 |label l=>intro ds w0 Q a ρ w hr hd ha h;exact wp_label ⟨hd,ha,ρ,hr,h⟩
 |goto l=>intro ds w0 Q a ρ w hr hd ha h;exact h.elim
 |refuse why=>intro ds w0 Q a ρ w hr hd ha h;exact h.elim
end
section
variable{P:Program}{N:Nat}
structure MFn where
 code:j6
 res:List a3E
 n:Nat
def a1j(P:Program)(f:FuncId):Option MFn:=
 match P.funcs[f]? with
 |some fn=>match fn.body with
  |some c=>i7 (a1E P fn.ntmps fn.results.toList) fun rs=>some ⟨a2s P fn.ntmps c,rs,fn.ntmps⟩
  |none=>none
 |none=>none
theorem a2v{a:Act}{ρ:Env}{w:World}(hr:Rel N a ρ){F:ResultVar→Sem Value}(hF1:∀t,F (.tmp t)=pure (a.tmps.getD t undef))(hF2:∀x t,F (.cell x t)=do loadVar t (←asAddr (a.tmps.getD x undef))):
  ∀(rv:List ResultVar) (rs:List a3E) (vs:List Value),a1E P N rv=some rs→a2f ρ w.heap rs=some vs→(rv.mapM (m:=Sem) F).run P w= .ok vs w
 | [],rs,vs,hc,hv=>by cases hc;cases hv;rfl
 | .tmp t::rv,rs,vs,hc,hv=>by
  simp only[a1E]at hc
  split at hc
  ·obtain⟨r,h1,hc⟩:=bV hc
   cases hc
   simp only[a2f]at hv
   obtain⟨v,h2,hv⟩:=bV hv
   obtain⟨us,h3,hv⟩:=bV hv
   cases hv
   cases h2
   simp only[List.mapM_cons,hF1,Sem.run_bind,Sem.run_pure,Result.andThen_ok,a2v hr hF1 hF2 rv r us h1 h3,hr.get t]
  ·cases hc
 | .cell x t::rv,rs,vs,hc,hv=>by
  simp only[a1E]at hc
  split at hc
  ·obtain⟨g,hg,hc⟩:=bV hc
   obtain⟨n,hn,hc⟩:=bV hc
   obtain⟨r,h1,hc⟩:=bV hc
   cases hc
   simp only[a2f]at hv
   obtain⟨v,h2,hv⟩:=bV hv
   obtain⟨us,h3,hv⟩:=bV hv
   cases hv
   have hx:=hr.get x
   have hload:(do loadVar t (←asAddr (a.tmps.getD x undef)):Sem Value).run P w= .ok v w:=by
    rw[hx]
    simp only[b7o]at h2
    cases g with
    |true=>
     simp only[if_true]at h2
     obtain⟨cs,hcs,h2⟩:=bV h2
     cases h2
     obtain⟨b,off,hv,hl,hrun,_⟩:=a4O (P:=P) hcs
     simp only[hv,asAddr,Sem.run_bind,Sem.run_pure,Result.andThen_ok,loadVar,V7 hg,v4 hn,if_true,hrun]
    |false=>
     simp only[Bool.false_eq_true,if_false]at h2
     obtain⟨b,off,hv,hcell⟩:=b2r h2
     simp only[hv,asAddr,Sem.run_bind,Sem.run_pure,Result.andThen_ok,loadVar,V7 hg,Bool.false_eq_true,if_false,run_load,hcell]
   rw[List.mapM_cons]
   simp only[hF2,Sem.run_bind]
   simp only[Sem.run_bind]at hload
   rw[hload]
   simp only[Result.andThen_ok]
   rw[a2v hr hF1 hF2 rv r us h1 h3]
   simp only[Result.andThen_ok,Sem.run_pure]
  ·cases hc
theorem b9T(vs:List Value):(if h:vs.toArray.size=1 then vs.toArray[0]else .tuple vs.toArray)=a2K vs:=by
 match vs with
 | []=>rfl
 | [v]=>rfl
 |_::_::_=>rfl
theorem a7V{fn:Func}{a:Act}{ρ:Env}{w:World}(hr:Rel N a ρ){rs:List a3E}(hc:a1E P N fn.results.toList=some rs){vs:List Value}(hv:a2f ρ w.heap rs=some vs):
  (results fn a.tmps).run P w= .ok (a2K vs) w:=by
 unfold results
 rw[Array.mapM_eq_mapM_toList]
 simp only[Sem.run_bind,Sem.run_map]
 rw[a2v hr (fun _=>rfl) (fun _ _=>rfl) _ _ _ hc hv]
 simp only[Result.andThen_ok,Sem.run_pure,b9T]
theorem enter{f:FuncId}{m:MFn}(hc:a1j P f=some m){args:List Value}(hl:args.length≤m.n){h0:c9}{R:Value→c9→Prop}
  (h:mwp P m.code (c0o m.res R) (a0p args) h0):d8 P f args h0 R:=by
 unfold a1j at hc
 split at hc
 ·rename_i fn hf
  split at hc
  ·rename_i c hb
   obtain⟨rs,hrs,hc⟩:=bV hc
   cases hc
   intro w hw
   subst hw
   dsimp only at hl h
   have hrel:Rel fn.ntmps {tmps:=args.toArray++Array.replicate (fn.ntmps-args.toArray.size) undef,defers:=[]} (a0p args):=by
    refine⟨by simp;omega,fun t=> ?_⟩
    simp only[a0p,a2k,l_s,Array.getElem?_append,Array.getElem?_replicate]
    by_cases h1:t<args.toArray.size
    ·simp only[h1,if_true];simp
    ·rw[if_neg h1]
     have h2:args[t]? =none:=Y1 (by simpa using h1)
     rw[h2]
     split<;>rfl
   have:=b3h c (ds:=[]) (w0:=w) hrel rfl (.refl w) h
   refine calls_of_wp hf hb (wp_mono this fun e a' w' he=> ?_)
   cases e with
   |normal=>
    obtain⟨hd,ha,ρ,hr,hq⟩:=he
    obtain⟨vs,hv,hq⟩:=H6 hq
    exact⟨hd,_,a7V hr hrs hv,_,rfl,ha,hq⟩
   |ret=>
    obtain⟨hd,ha,ρ,hr,hq⟩:=he
    obtain⟨vs,hv,hq⟩:=H6 hq
    exact⟨hd,_,a7V hr hrs hv,_,rfl,ha,hq⟩
   |exit id=>obtain⟨_,_,_,_,hq⟩:=he;exact hq.elim
   |goto l=>exact he.elim
   |panic c=>exact he.elim
   |outgrown=>exact he.elim
  ·cases hc
 ·cases hc
theorem d8.mono{f:FuncId}{args:List Value}{h:c9}{R R':Value→c9→Prop}(hc:d8 P f args h R)(hr:∀v h',R v h'→R' v h'):d8 P f args h R':=
 fun w hw=>(hc w hw).mono fun _ _ ⟨v,he,ha,hv⟩=>⟨v,he,ha,hr _ _ hv⟩
end
end Go.Proofs.YtjagmebglhbdkaaGreat.MX
