import Derived.Test.YtjagmebglhbdkaaGreatK03
namespace Go.Proofs.YtjagmebglhbdkaaGreat.MX
open Go Go.Proofs
set_option linter.unusedSimpArgs false
set_option linter.unusedVariables false
section
variable{P:Program}{N:Nat}{a:Act}{ρ:Env}{w:World}{K:Value→c9→Prop}
theorem b4q{x y v:Value}(h:b8K x y=some v):(Builtin.min2 x y).run P w= .ok v w:=by
 unfold b8K at h
 split at h
 ·cases h;rfl
 ·cases h
theorem b4o{x y v:Value}(h:b8J x y=some v):(Builtin.max2 x y).run P w= .ok v w:=by
 unfold b8J at h
 split at h
 ·cases h;rfl
 ·cases h
theorem a4h{f:Value→Value→Option Value}{g:Value→Value→Sem Value}(hfg:∀x y v,f x y=some v→(g x y).run P w= .ok v w):∀(ys:List Value) (x v:Value),a3h f x ys=some v→(ys.foldlM g x).run P w= .ok v w
 | [],x,v,h=>by cases h;rfl
 |y::ys,x,v,h=>by
  simp only[a3h]at h
  obtain⟨z,h1,h2⟩:=bV h
  simp only[List.foldlM_cons,Sem.run_bind,hfg x y z h1,Result.andThen_ok]
  exact a4h hfg ys z v h2
theorem a8Q{x v:Value}(h:a9P true x=some v):∃s,x= .string s∧v= .int .i64 s.size:=by
 cases x<;>simp[a9P]at h
 exact⟨_,rfl,h.symm⟩
theorem a8P{x v:Value}(h:a9P false x=some v):∃a n c,x= .slice a n c∧v= .int .i64 n:=by
 cases x<;>simp[a9P]at h
 exact⟨_,_,_,rfl,h.symm⟩
theorem b3I{cl:Call}{xs:List Opd}(hrel:Rel N a ρ)(h:b1w N cl.args.toList=some xs):cl.args.map a.eval=(xs.map (ev ρ)).toArray:=by
 apply Array.toList_inj.1
 rw[Array.toList_map,M4 hrel h]
theorem a6J{o:Oper}{c:Call}(ho:o.op= .call c)(hrel:Rel N a ρ){m:MOp}(hc:a2d P N c=some m)(h:m.wp P ρ w.heap K):C2 P o a w K:=by
 unfold a2d at hc
 split at hc
 ·rename_i b hcl
  obtain⟨xs,hxs,hc⟩:=bV hc
  have hargs:=b3I hrel hxs
  split at hc
  ·--len
   rename_i x
   obtain⟨t,ht,hc⟩:=bV hc
   split at hc
   ·rename_i hu
    cases hc
    refine v4 h fun v hv=> ?_
    obtain⟨s,hx,rfl⟩:=a8Q hv
    simp[execOp,ho,resolve,hcl,hargs,hx,invoke,builtin,Builtin.len_,ht,j9 hu,goInt]
   ·rename_i hu
    cases hc
    refine v4 h fun v hv=> ?_
    obtain⟨_,n,_,hx,rfl⟩:=a8P hv
    simp[execOp,ho,resolve,hcl,hargs,hx,invoke,builtin,Builtin.len_,ht,j9 hu,goInt]
   ·rename_i hu
    cases hc
    refine v4 (v:=some (.int .i64 _)) h fun v hv=> ?_
    cases hv
    simp[execOp,ho,resolve,hcl,hargs,invoke,builtin,Builtin.len_,ht,j9 hu,goInt]
   ·rename_i hu
    split at hc
    ·rename_i hu2
     cases hc
     refine v4 (v:=some (.int .i64 _)) h fun v hv=> ?_
     cases hv
     simp[execOp,ho,resolve,hcl,hargs,invoke,builtin,Builtin.len_,ht,j9 hu,j9 hu2,goInt]
    ·cases hc
   ·cases hc
  ·--cap
   rename_i x
   obtain⟨t,ht,hc⟩:=bV hc
   split at hc
   ·rename_i hu
    cases hc
    refine v4 h fun v hv=> ?_
    simp only[j5.val]at hv
    unfold b7G at hv
    split at hv<;>first|(cases hv;done)|skip
    cases hv;rename_i hx
    simp[execOp,ho,resolve,hcl,hargs,hx,invoke,builtin,Builtin.cap_,ht,j9 hu,goInt]
   ·cases hc
  ·rename_i x ys
   cases hc
   refine v4 h fun v hv=> ?_
   simp only[j5.val]at hv
   have hf:=a4h (P:=P) (w:=w) (g:=Builtin.min2) (fun x y v=>b4q) _ _ _ hv
   simp[execOp,ho,resolve,hcl,hargs,invoke,builtin,Builtin.min_,hf]
  ·rename_i x ys
   cases hc
   refine v4 h fun v hv=> ?_
   simp only[j5.val]at hv
   have hf:=a4h (P:=P) (w:=w) (g:=Builtin.max2) (fun x y v=>b4o) _ _ _ hv
   simp[execOp,ho,resolve,hcl,hargs,invoke,builtin,Builtin.max_,hf]
  ·--append
   rename_i x y _
   obtain⟨t,ht,hc⟩:=bV hc
   obtain⟨u,ht2,hc⟩:=bV hc
   obtain⟨x',y',hx⟩:∃x' y',c.args.toList=[x',y']∧a.eval x'=ev ρ x∧a.eval y'=ev ρ y:=by
    have:=M4 hrel hxs
    match hl:c.args.toList with
    | []=>simp[hl]at this
    | [_]=>simp[hl]at this
    | [p,q]=>rw[hl]at this;simp at this;exact⟨p,q,rfl,this.1,this.2⟩
    |_::_::_::_=>simp[hl]at this
   obtain⟨hx,hex,hey⟩:=hx
   split at hc
   ·rename_i e e' hu hd
    obtain⟨sz,hs,hc⟩:=bV hc
    obtain⟨by_,hb,hc⟩:=bV hc
    obtain⟨z,hz,hc⟩:=bV hc
    split at hc
    ·rename_i hl
     cases hc
     exact a8p ho hcl hx ht ht2 hu hd (.inl ⟨_,rfl⟩) hs hb hz hl (by rw[hex,hey];exact h)
    ·cases hc
   ·rename_i e hu hd
    obtain⟨sz,hs,hc⟩:=bV hc
    obtain⟨by_,hb,hc⟩:=bV hc
    obtain⟨z,hz,hc⟩:=bV hc
    split at hc
    ·rename_i hl
     cases hc
     exact a8p ho hcl hx ht ht2 hu hd (.inr rfl) hs hb hz hl (by rw[hex,hey];exact h)
    ·cases hc
   ·cases hc
  ·--copy
   rename_i x y _
   obtain⟨t,ht,hc⟩:=bV hc
   obtain⟨x',y',hx⟩:∃x' y',c.args.toList=[x',y']∧a.eval x'=ev ρ x∧a.eval y'=ev ρ y:=by
    have:=M4 hrel hxs
    match hl:c.args.toList with
    | []=>simp[hl]at this
    | [_]=>simp[hl]at this
    | [p,q]=>rw[hl]at this;simp at this;exact⟨p,q,rfl,this.1,this.2⟩
    |_::_::_::_=>simp[hl]at this
   obtain⟨hx,hex,hey⟩:=hx
   split at hc
   ·rename_i e hu
    obtain⟨sz,hs,hc⟩:=bV hc
    split at hc
    ·cases hc
     exact c1b ho hcl hx ht hu hs (by rw[hex,hey];exact h)
    ·cases hc
   ·cases hc
  ·--clear
   rename_i x _
   obtain⟨t,ht,hc⟩:=bV hc
   obtain⟨x',hx,hex⟩:∃x',c.args.toList=[x']∧a.eval x'=ev ρ x:=by
    have:=M4 hrel hxs
    match hl:c.args.toList with
    | []=>simp[hl]at this
    | [p]=>rw[hl]at this;simp at this;exact⟨p,rfl,this⟩
    |_::_::_=>simp[hl]at this
   split at hc
   ·rename_i e hu
    obtain⟨sz,hs,hc⟩:=bV hc
    obtain⟨z,hz,hc⟩:=bV hc
    split at hc
    ·rename_i hl
     cases hc
     exact b7M ho hcl hx ht hu hz (by rw[hl.1];exact hl.2) (by rw[hex];exact h)
    ·cases hc
   ·cases hc
  ·cases hc
 ·rename_i f hcl
  obtain⟨y,hy,hc⟩:=bV hc
  obtain⟨xs,hxs,hc⟩:=bV hc
  have he:=l7 hrel hy
  have hargs:=M4 hrel hxs
  split at hc
  ·rename_i g p q
   split at hc
   ·rename_i hok
    simp only[a1B,Array.isEmpty_iff]at hok
    obtain⟨⟨rfl,rfl⟩,hok⟩:=hok
    cases hc
    exact c0V ho ⟨f,hcl,he⟩ hargs hok h
   ·cases hc
  ·cases hc
   exact b7F ho hcl hargs (by rw[he];exact h)
  ·cases hc
 ·cases hc
theorem a2b{o:Oper}(hrel:Rel N a ρ){m:MOp}(hc:a6x N o=some m)(h:m.wp P ρ w.heap K):C2 P o a w K:=by
 unfold a6x at hc
 split at hc
 ·cases hc
 ·cases hc
 ·split at hc
  ·rename_i hall
   cases hc
   exact b7s hrel hall h
  ·cases hc
theorem a0Z{o:Oper}{op:BinOp}{T yT:TypeId}{x y:Operand}(ho:o.op= .binOp op T x y yT){k:EK}{d:TypeDesc}(hu:P.underlying T=some d)(hd:b8b k d=true)
  {x' y':Opd} (hx:a.eval x=ev ρ x') (hy:a.eval y=ev ρ y') {m:MOp}
  (hc:(op= .eql∧m= .p (.eq k false x' y'))∨(op= .neq∧m= .p (.eq k true x' y'))) (h:m.wp P ρ w.heap K):C2 P o a w K:=by
 rcases hc with⟨rfl,rfl⟩|⟨rfl,rfl⟩
 ·refine v4 h fun v hv=> ?_
  simp only[j5.val,←hx,←hy]at hv
  exact b3Y ho hu hd (neg:=false) rfl hv
 ·refine v4 h fun v hv=> ?_
  simp only[j5.val,←hx,←hy]at hv
  exact b3Y ho hu hd (neg:=true) rfl hv
set_option maxHeartbeats 1000000 in
theorem a3Y{o:Oper}(hrel:Rel N a ρ){m:MOp}(hc:a4T P N o=some m)(h:m.wp P ρ w.heap K):C2 P o a w K:=by
 unfold a4T at hc
 split at hc
 ·--move
  rename_i ho
  obtain⟨x,hx,hc⟩:=bV hc
  cases hc
  refine C2.value (v:=ev ρ x) ?_ h
  simp[execOp,ho,l7 hrel hx]
 ·rename_i ho
  obtain⟨x,hx,hc⟩:=bV hc
  cases hc
  refine C2.value (v:=ev ρ x) ?_ h
  simp[execOp,ho,l7 hrel hx]
 ·--pick
  rename_i ho
  obtain⟨c,h1,hc⟩:=bV hc
  obtain⟨x,h2,hc⟩:=bV hc
  obtain⟨y,h3,hc⟩:=bV hc
  cases hc
  refine v4 h fun v hv=> ?_
  have:=b4C (P:=P) (w:=w) hv
  simp only[execOp,ho,l7 hrel h1,l7 hrel h2,l7 hrel h3]
  exact this
 ·rename_i ho
  obtain⟨z,hz,hc⟩:=bV hc
  cases hc
  exact b7q ho hz h
 ·rename_i e x ho
  obtain⟨x',hx,hc⟩:=bV hc
  cases hc
  refine c2X ho ?_
  rw[l7 hrel hx]
  exact h
 ·--build
  rename_i ho
  obtain⟨z,hz,hc⟩:=bV hc
  split at hc
  ·rename_i fs hu
   split at hc
   ·rename_i hall
    obtain⟨ps,hp,hc⟩:=bV hc
    cases hc
    exact v4 h fun v hv=>b0J hrel ho hz hu hall hp hv
   ·cases hc
  ·rename_i hu
   obtain⟨sz,hs,hc⟩:=bV hc
   obtain⟨ps,hp,hc⟩:=bV hc
   cases hc
   exact v4 h fun v hv=>a8r hrel ho hz hu hs hp hv
  ·cases hc
 ·--buildSlice
  rename_i ho
  split at hc
  ·rename_i hu
   obtain⟨sz,hs,hc⟩:=bV hc
   obtain⟨z,hz,hc⟩:=bV hc
   split at hc
   ·rename_i hl
    obtain⟨ps,hp,hc⟩:=bV hc
    cases hc
    exact b5x hrel ho hu hs hz hl hp h
   ·cases hc
  ·cases hc
 ·--load
  rename_i ho
  obtain⟨x,hx,hc⟩:=bV hc
  obtain⟨g,hg,hc⟩:=bV hc
  split at hc
  ·rename_i hgt
   subst hgt
   obtain⟨n,hn,hc⟩:=bV hc
   cases hc
   refine v4 h fun v hv=> ?_
   simp only[a1Z.val,←l7 hrel hx]at hv
   exact b1p ho hg hn hv
  ·rename_i hgt
   obtain rfl:g=false:=by simpa using hgt
   cases hc
   refine v4 h fun v hv=> ?_
   simp only[a1Z.val,←l7 hrel hx]at hv
   exact b1o ho hg hv
 ·--store
  rename_i ho
  obtain⟨x,hx,hc⟩:=bV hc
  obtain⟨y,hy,hc⟩:=bV hc
  obtain⟨n,hn,hc⟩:=bV hc
  cases hc
  obtain⟨hl,hw⟩:=h
  exact b9R ho hn (by rw[l7 hrel hy];exact hl) (by rw[l7 hrel hy,l7 hrel hx];exact hw)
 ·--nilCheck
  rename_i ho
  obtain⟨x,hx,hc⟩:=bV hc
  cases hc
  refine v4 h fun v hv=> ?_
  simp only[j5.val,←l7 hrel hx]at hv
  exact b8V ho hv
 ·--binOp
  rename_i op t x y yT ho
  obtain⟨x',hx,hc⟩:=bV hc
  obtain⟨y',hy,hc⟩:=bV hc
  have ex:=l7 hrel hx
  have ey:=l7 hrel hy
  split at hc
  ·cases hc
   refine v4 h fun v hv=> ?_
   simp only[j5.val,←ex,←ey]at hv
   exact a9D ho hv
  ·cases hc
   refine v4 h fun v hv=> ?_
   simp only[j5.val,←ex,←ey]at hv
   exact a9D ho hv
  ·rename_i hu
   exact a0Z (k:= .b) ho hu rfl ex ey (by split at hc<;>simp_all) h
  ·rename_i hu
   exact a0Z (k:= .p) ho hu rfl ex ey (by split at hc<;>simp_all) h
  ·rename_i hu
   exact a0Z (k:= .s) ho hu rfl ex ey (by split at hc<;>simp_all) h
  ·rename_i hu
   exact a0Z (k:= .m) ho hu rfl ex ey (by split at hc<;>simp_all) h
  ·rename_i hu
   exact a0Z (k:= .f) ho hu rfl ex ey (by split at hc<;>simp_all) h
  ·rename_i hu
   ·obtain⟨ks,hk,hc⟩:=bV hc
    have hgt:P.eqGuardType P.depth t=false:=a0A hk
    have hag:x8 P t=some true:=by simp only[x8,hu]
    have hcc:(op= .eql∧m= .p (.eqA ks false x' y'))∨(op= .neq∧m= .p (.eqA ks true x' y')):=by split at hc<;>simp_all
    rcases hcc with⟨rfl,rfl⟩|⟨rfl,rfl⟩
    ·refine v4 h fun v hv=> ?_
     simp only[j5.val,←ex,←ey]at hv
     exact a2h ho hag hgt hk (neg:=false) rfl hv
    ·refine v4 h fun v hv=> ?_
     simp only[j5.val,←ex,←ey]at hv
     exact a2h ho hag hgt hk (neg:=true) rfl hv
  ·rename_i hu
   ·obtain⟨ks,hk,hc⟩:=bV hc
    have hgt:P.eqGuardType P.depth t=false:=a0A hk
    have hag:x8 P t=some true:=by simp only[x8,hu]
    have hcc:(op= .eql∧m= .p (.eqA ks false x' y'))∨(op= .neq∧m= .p (.eqA ks true x' y')):=by split at hc<;>simp_all
    rcases hcc with⟨rfl,rfl⟩|⟨rfl,rfl⟩
    ·refine v4 h fun v hv=> ?_
     simp only[j5.val,←ex,←ey]at hv
     exact a2h ho hag hgt hk (neg:=false) rfl hv
    ·refine v4 h fun v hv=> ?_
     simp only[j5.val,←ex,←ey]at hv
     exact a2h ho hag hgt hk (neg:=true) rfl hv
  ·exact a2b hrel hc h
 ·--unOp
  rename_i ho
  obtain⟨x,hx,hc⟩:=bV hc
  cases hc
  refine v4 h fun v hv=> ?_
  simp only[j5.val,←l7 hrel hx]at hv
  exact c2J ho hv
 ·--convert
  rename_i ho
  obtain⟨x,hx,hc⟩:=bV hc
  split at hc
  ·rename_i h1 h2
   cases hc
   refine v4 h fun v hv=> ?_
   simp only[j5.val,←l7 hrel hx]at hv
   exact b3O ho h1 h2 hv
  ·rename_i h1 h2
   split at hc
   ·rename_i h3
    cases hc
    exact c3N ho h1 h2 h3 (by rw[l7 hrel hx];exact h)
   ·cases hc
  ·exact a2b hrel hc h
 ·--makeFunc
  rename_i ho
  obtain⟨xs,hx,hc⟩:=bV hc
  obtain⟨ys,hy,hc⟩:=bV hc
  cases hc
  refine v4 (v:=some (.func _ _ _)) h fun v hv=> ?_
  cases hv
  exact b4c ho (M4 hrel hx) (M4 hrel hy)
 ·--makeSlice
  rename_i ho
  obtain⟨l,hl,hc⟩:=bV hc
  obtain⟨c,hcc,hc⟩:=bV hc
  split at hc
  ·rename_i hu
   obtain⟨sz,hs,hc⟩:=bV hc
   obtain⟨by_,hb,hc⟩:=bV hc
   obtain⟨z,hz,hc⟩:=bV hc
   split at hc
   ·rename_i hzz
    cases hc
    exact c4B ho hu hs hb hz hzz (by rw[l7 hrel hl,l7 hrel hcc];exact h)
   ·cases hc
  ·cases hc
 ·--slice
  rename_i t x lo hi mx ho
  obtain⟨x',hx,hc⟩:=bV hc
  obtain⟨lo',hlo,hc⟩:=bV hc
  obtain⟨hi',hhi,hc⟩:=bV hc
  obtain⟨mx',hmx,hc⟩:=bV hc
  split at hc
  ·cases hc
  ·rename_i hmh
   have hmh':(mx.isSome&&hi.isNone)=false:=by cases h:(mx.isSome&&hi.isNone)with|true=>exact absurd h hmh|false=>rfl
   have e1:=l7 hrel hx
   have e2:=a2U hrel hlo
   have e3:=a2U hrel hhi
   have e4:=a2U hrel hmx
   split at hc
   ·rename_i hu
    obtain⟨sz,hs,hc⟩:=bV hc
    cases hc
    refine v4 h fun v hv=> ?_
    simp only[j5.val,←e1,←e2,←e3,←e4]at hv
    exact b3P ho hu hs hmh' hv
   ·rename_i hu
    split at hc
    ·cases hc
    ·rename_i hm
     injection hc with hc
     subst hc
     have hmn:mx=none:=by cases mx<;>simp_all
     rw[hmn]at ho
     refine v4 h fun v hv=> ?_
     simp only[j5.val,←e1,←e2,←e3]at hv
     exact b3S ho hu hv
   ·rename_i hu
    obtain⟨sz,hs,hc⟩:=bV hc
    cases hc
    refine v4 h fun v hv=> ?_
    simp only[j5.val,←e1,←e2,←e3,←e4]at hv
    exact b3R ho hu hs hmh' hv
   ·rename_i hu
    split at hc
    ·rename_i hu2
     obtain⟨sz,hs,hc⟩:=bV hc
     cases hc
     refine v4 h fun v hv=> ?_
     simp only[j5.val,←e1,←e2,←e3,←e4]at hv
     exact b3Q ho hu hu2 hs hmh' hv
    ·cases hc
   ·cases hc
 ·--fieldAddr
  rename_i ho
  obtain⟨x,hx,hc⟩:=bV hc
  split at hc
  ·rename_i hu
   split at hc
   ·rename_i hf
    obtain⟨sz,hs,hc⟩:=bV hc
    split at hc
    ·cases hc
    ·rename_i h0
     cases hc
     refine v4 h fun v hv=> ?_
     simp only[j5.val,←l7 hrel hx]at hv
     exact a4e ho hu hf hs h0 hv
   ·cases hc
  ·cases hc
 ·--field
  rename_i ho
  obtain⟨x,hx,hc⟩:=bV hc
  split at hc
  ·rename_i hu
   split at hc
   ·rename_i hf
    obtain⟨sz,hs,hc⟩:=bV hc
    obtain⟨g,hg,hc⟩:=bV hc
    cases hc
    refine v4 h fun v hv=> ?_
    simp only[j5.val,←l7 hrel hx]at hv
    exact b0W ho hu hf hs hg hv
   ·cases hc
  ·cases hc
 ·--indexAddr
  rename_i ho
  obtain⟨x,hx,hc⟩:=bV hc
  obtain⟨i,hi,hc⟩:=bV hc
  split at hc
  ·rename_i hu
   obtain⟨sz,hs,hc⟩:=bV hc
   cases hc
   refine v4 h fun v hv=> ?_
   simp only[j5.val,←l7 hrel hx,←l7 hrel hi]at hv
   exact b4f ho hu hs hv
  ·rename_i hu
   obtain⟨sz,hs,hc⟩:=bV hc
   cases hc
   refine v4 h fun v hv=> ?_
   simp only[j5.val,←l7 hrel hx,←l7 hrel hi]at hv
   exact b4d ho hu hs hv
  ·cases hc
 ·--index
  rename_i ho
  obtain⟨x,hx,hc⟩:=bV hc
  obtain⟨i,hi,hc⟩:=bV hc
  split at hc
  ·rename_i hu
   cases hc
   refine v4 h fun v hv=> ?_
   simp only[j5.val,←l7 hrel hx,←l7 hrel hi]at hv
   exact b4g ho hu hv
  ·rename_i hu
   obtain⟨sz,hs,hc⟩:=bV hc
   obtain⟨g,hg,hc⟩:=bV hc
   cases hc
   refine v4 h fun v hv=> ?_
   simp only[j5.val,←l7 hrel hx,←l7 hrel hi]at hv
   exact b4e ho hu hs hg hv
  ·cases hc
 ·--extract
  rename_i ho
  obtain⟨x,hx,hc⟩:=bV hc
  cases hc
  refine v4 h fun v hv=> ?_
  simp only[j5.val,←l7 hrel hx]at hv
  exact b3Z ho hv
 ·rename_i ho
  split at hc
  ·rename_i m' hm'
   cases hc
   exact a6J ho hrel hm' h
  ·split at hc
   ·rename_i hall
    cases hc
    exact b7s hrel hall h
   ·cases hc
 ·exact a2b hrel hc h
end
section
variable{P:Program}{N:Nat}{a:Act}{ρ:Env}{w:World}
def MOp.val(ρ:Env)(h:c9):MOp→Option Value
 | .p x=>x.val ρ
 | .r x=>x.val ρ h
 | .e _=>none
theorem a6I{o:Oper}{c:Call}(ho:o.op= .call c)(hrel:Rel N a ρ){m:MOp}(hc:a2d P N c=some m)(hm:a8L m=false){v:Value}(hv:m.val ρ w.heap=some v):(execOp a.eval o).run P w= .ok (.value v) w:=by
 unfold a2d at hc
 split at hc
 ·rename_i b hcl
  obtain⟨xs,hxs,hc⟩:=bV hc
  have hargs:=b3I hrel hxs
  split at hc
  ·--len
   rename_i x
   obtain⟨t,ht,hc⟩:=bV hc
   split at hc
   ·rename_i hu
    cases hc
    obtain⟨s,hx,rfl⟩:=a8Q (x:=ev ρ _) hv
    simp[execOp,ho,resolve,hcl,hargs,hx,invoke,builtin,Builtin.len_,ht,j9 hu,goInt]
   ·rename_i hu
    cases hc
    obtain⟨_,n,_,hx,rfl⟩:=a8P (x:=ev ρ _) hv
    simp[execOp,ho,resolve,hcl,hargs,hx,invoke,builtin,Builtin.len_,ht,j9 hu,goInt]
   ·rename_i hu
    cases hc
    cases hv
    simp[execOp,ho,resolve,hcl,hargs,invoke,builtin,Builtin.len_,ht,j9 hu,goInt]
   ·rename_i hu
    split at hc
    ·rename_i hu2
     cases hc
     cases hv
     simp[execOp,ho,resolve,hcl,hargs,invoke,builtin,Builtin.len_,ht,j9 hu,j9 hu2,goInt]
    ·cases hc
   ·cases hc
  ·--cap
   rename_i x
   obtain⟨t,ht,hc⟩:=bV hc
   split at hc
   ·rename_i hu
    cases hc
    simp only[MOp.val,j5.val]at hv
    unfold b7G at hv
    split at hv<;>first|(cases hv;done)|skip
    cases hv;rename_i hx
    simp[execOp,ho,resolve,hcl,hargs,hx,invoke,builtin,Builtin.cap_,ht,j9 hu,goInt]
   ·cases hc
  ·rename_i x ys
   cases hc
   simp only[MOp.val,j5.val]at hv
   have hf:=a4h (P:=P) (w:=w) (g:=Builtin.min2) (fun x y v=>b4q) _ _ _ hv
   simp[execOp,ho,resolve,hcl,hargs,invoke,builtin,Builtin.min_,hf]
  ·rename_i x ys
   cases hc
   simp only[MOp.val,j5.val]at hv
   have hf:=a4h (P:=P) (w:=w) (g:=Builtin.max2) (fun x y v=>b4o) _ _ _ hv
   simp[execOp,ho,resolve,hcl,hargs,invoke,builtin,Builtin.max_,hf]
  ·--append
   rename_i x y _
   obtain⟨t,ht,hc⟩:=bV hc
   obtain⟨u,ht2,hc⟩:=bV hc
   obtain⟨x',y',hx⟩:∃x' y',c.args.toList=[x',y']∧a.eval x'=ev ρ x∧a.eval y'=ev ρ y:=by
    have:=M4 hrel hxs
    match hl:c.args.toList with
    | []=>simp[hl]at this
    | [_]=>simp[hl]at this
    | [p,q]=>rw[hl]at this;simp at this;exact⟨p,q,rfl,this.1,this.2⟩
    |_::_::_::_=>simp[hl]at this
   obtain⟨hx,hex,hey⟩:=hx
   split at hc
   ·rename_i e e' hu hd
    obtain⟨sz,hs,hc⟩:=bV hc
    obtain⟨by_,hb,hc⟩:=bV hc
    obtain⟨z,hz,hc⟩:=bV hc
    split at hc
    ·rename_i hl
     cases hc
     cases hm
    ·cases hc
   ·rename_i e hu hd
    obtain⟨sz,hs,hc⟩:=bV hc
    obtain⟨by_,hb,hc⟩:=bV hc
    obtain⟨z,hz,hc⟩:=bV hc
    split at hc
    ·rename_i hl
     cases hc
     cases hm
    ·cases hc
   ·cases hc
  ·--copy
   rename_i x y _
   obtain⟨t,ht,hc⟩:=bV hc
   obtain⟨x',y',hx⟩:∃x' y',c.args.toList=[x',y']∧a.eval x'=ev ρ x∧a.eval y'=ev ρ y:=by
    have:=M4 hrel hxs
    match hl:c.args.toList with
    | []=>simp[hl]at this
    | [_]=>simp[hl]at this
    | [p,q]=>rw[hl]at this;simp at this;exact⟨p,q,rfl,this.1,this.2⟩
    |_::_::_::_=>simp[hl]at this
   obtain⟨hx,hex,hey⟩:=hx
   split at hc
   ·rename_i e hu
    obtain⟨sz,hs,hc⟩:=bV hc
    split at hc
    ·cases hc
     cases hm
    ·cases hc
   ·cases hc
  ·--clear
   rename_i x _
   obtain⟨t,ht,hc⟩:=bV hc
   obtain⟨x',hx,hex⟩:∃x',c.args.toList=[x']∧a.eval x'=ev ρ x:=by
    have:=M4 hrel hxs
    match hl:c.args.toList with
    | []=>simp[hl]at this
    | [p]=>rw[hl]at this;simp at this;exact⟨p,rfl,this⟩
    |_::_::_=>simp[hl]at this
   split at hc
   ·rename_i e hu
    obtain⟨sz,hs,hc⟩:=bV hc
    obtain⟨z,hz,hc⟩:=bV hc
    split at hc
    ·rename_i hl
     cases hc
     cases hm
    ·cases hc
   ·cases hc
  ·cases hc
 ·rename_i f hcl
  obtain⟨y,hy,hc⟩:=bV hc
  obtain⟨xs,hxs,hc⟩:=bV hc
  have he:=l7 hrel hy
  have hargs:=M4 hrel hxs
  split at hc
  ·rename_i g p q
   split at hc
   ·rename_i hok
    simp only[a1B,Array.isEmpty_iff]at hok
    obtain⟨⟨rfl,rfl⟩,hok⟩:=hok
    cases hc
    cases hm
   ·cases hc
  ·cases hc
   cases hm
  ·cases hc
 ·cases hc
theorem a2a{o:Oper}(hrel:Rel N a ρ){m:MOp}(hc:a6x N o=some m)(hm:a8L m=false){v:Value}(hv:m.val ρ w.heap=some v):(execOp a.eval o).run P w= .ok (.value v) w:=by
 unfold a6x at hc
 split at hc
 ·cases hc
 ·cases hc
 ·split at hc
  ·rename_i hall
   cases hc
   cases hm
  ·cases hc
theorem a0Y{o:Oper}{op:BinOp}{T yT:TypeId}{x y:Operand}(ho:o.op= .binOp op T x y yT){k:EK}{d:TypeDesc}(hu:P.underlying T=some d)(hd:b8b k d=true)
  {x' y':Opd} (hx:a.eval x=ev ρ x') (hy:a.eval y=ev ρ y') {m:MOp}
  (hc:(op= .eql∧m= .p (.eq k false x' y'))∨(op= .neq∧m= .p (.eq k true x' y'))) (hm:a8L m=false) {v:Value} (hv:m.val ρ w.heap=some v):(execOp a.eval o).run P w= .ok (.value v) w:=by
 rcases hc with⟨rfl,rfl⟩|⟨rfl,rfl⟩
 ·simp only[MOp.val,j5.val,←hx,←hy]at hv
  exact b3Y ho hu hd (neg:=false) rfl hv
 ·simp only[MOp.val,j5.val,←hx,←hy]at hv
  exact b3Y ho hu hd (neg:=true) rfl hv
set_option maxHeartbeats 1000000 in
theorem a3X{o:Oper}(hrel:Rel N a ρ){m:MOp}(hc:a4T P N o=some m)(hm:a8L m=false){v:Value}(hv:m.val ρ w.heap=some v):(execOp a.eval o).run P w= .ok (.value v) w:=by
 unfold a4T at hc
 split at hc
 ·--move
  rename_i ho
  obtain⟨x,hx,hc⟩:=bV hc
  cases hc
  cases hv
  simp[execOp,ho,l7 hrel hx]
 ·rename_i ho
  obtain⟨x,hx,hc⟩:=bV hc
  cases hc
  cases hv
  simp[execOp,ho,l7 hrel hx]
 ·--pick
  rename_i ho
  obtain⟨c,h1,hc⟩:=bV hc
  obtain⟨x,h2,hc⟩:=bV hc
  obtain⟨y,h3,hc⟩:=bV hc
  cases hc
  have:=b4C (P:=P) (w:=w) hv
  simp only[execOp,ho,l7 hrel h1,l7 hrel h2,l7 hrel h3]
  exact this
 ·rename_i ho
  obtain⟨z,hz,hc⟩:=bV hc
  cases hc
  cases hm
 ·rename_i e x ho
  obtain⟨x',hx,hc⟩:=bV hc
  cases hc
  cases hm
 ·--build
  rename_i ho
  obtain⟨z,hz,hc⟩:=bV hc
  split at hc
  ·rename_i fs hu
   split at hc
   ·rename_i hall
    obtain⟨ps,hp,hc⟩:=bV hc
    cases hc
    exact b0J hrel ho hz hu hall hp hv
   ·cases hc
  ·rename_i hu
   obtain⟨sz,hs,hc⟩:=bV hc
   obtain⟨ps,hp,hc⟩:=bV hc
   cases hc
   exact a8r hrel ho hz hu hs hp hv
  ·cases hc
 ·--buildSlice
  rename_i ho
  split at hc
  ·rename_i hu
   obtain⟨sz,hs,hc⟩:=bV hc
   obtain⟨z,hz,hc⟩:=bV hc
   split at hc
   ·rename_i hl
    obtain⟨ps,hp,hc⟩:=bV hc
    cases hc
    cases hm
   ·cases hc
  ·cases hc
 ·--load
  rename_i ho
  obtain⟨x,hx,hc⟩:=bV hc
  obtain⟨g,hg,hc⟩:=bV hc
  split at hc
  ·rename_i hgt
   subst hgt
   obtain⟨n,hn,hc⟩:=bV hc
   cases hc
   simp only[MOp.val,a1Z.val,←l7 hrel hx]at hv
   exact b1p ho hg hn hv
  ·rename_i hgt
   obtain rfl:g=false:=by simpa using hgt
   cases hc
   simp only[MOp.val,a1Z.val,←l7 hrel hx]at hv
   exact b1o ho hg hv
 ·--store
  rename_i ho
  obtain⟨x,hx,hc⟩:=bV hc
  obtain⟨y,hy,hc⟩:=bV hc
  obtain⟨n,hn,hc⟩:=bV hc
  cases hc
  cases hm
 ·--nilCheck
  rename_i ho
  obtain⟨x,hx,hc⟩:=bV hc
  cases hc
  simp only[MOp.val,j5.val,←l7 hrel hx]at hv
  exact b8V ho hv
 ·--binOp
  rename_i op t x y yT ho
  obtain⟨x',hx,hc⟩:=bV hc
  obtain⟨y',hy,hc⟩:=bV hc
  have ex:=l7 hrel hx
  have ey:=l7 hrel hy
  split at hc
  ·cases hc
   simp only[MOp.val,j5.val,←ex,←ey]at hv
   exact a9D ho hv
  ·cases hc
   simp only[MOp.val,j5.val,←ex,←ey]at hv
   exact a9D ho hv
  ·rename_i hu
   exact a0Y (k:= .b) ho hu rfl ex ey (by split at hc<;>simp_all) hm hv
  ·rename_i hu
   exact a0Y (k:= .p) ho hu rfl ex ey (by split at hc<;>simp_all) hm hv
  ·rename_i hu
   exact a0Y (k:= .s) ho hu rfl ex ey (by split at hc<;>simp_all) hm hv
  ·rename_i hu
   exact a0Y (k:= .m) ho hu rfl ex ey (by split at hc<;>simp_all) hm hv
  ·rename_i hu
   exact a0Y (k:= .f) ho hu rfl ex ey (by split at hc<;>simp_all) hm hv
  ·rename_i hu
   ·obtain⟨ks,hk,hc⟩:=bV hc
    have hgt:P.eqGuardType P.depth t=false:=a0A hk
    have hag:x8 P t=some true:=by simp only[x8,hu]
    have hcc:(op= .eql∧m= .p (.eqA ks false x' y'))∨(op= .neq∧m= .p (.eqA ks true x' y')):=by split at hc<;>simp_all
    rcases hcc with⟨rfl,rfl⟩|⟨rfl,rfl⟩
    ·simp only[MOp.val,j5.val,←ex,←ey]at hv
     exact a2h ho hag hgt hk (neg:=false) rfl hv
    ·simp only[MOp.val,j5.val,←ex,←ey]at hv
     exact a2h ho hag hgt hk (neg:=true) rfl hv
  ·rename_i hu
   ·obtain⟨ks,hk,hc⟩:=bV hc
    have hgt:P.eqGuardType P.depth t=false:=a0A hk
    have hag:x8 P t=some true:=by simp only[x8,hu]
    have hcc:(op= .eql∧m= .p (.eqA ks false x' y'))∨(op= .neq∧m= .p (.eqA ks true x' y')):=by split at hc<;>simp_all
    rcases hcc with⟨rfl,rfl⟩|⟨rfl,rfl⟩
    ·simp only[MOp.val,j5.val,←ex,←ey]at hv
     exact a2h ho hag hgt hk (neg:=false) rfl hv
    ·simp only[MOp.val,j5.val,←ex,←ey]at hv
     exact a2h ho hag hgt hk (neg:=true) rfl hv
  ·exact a2a hrel hc hm hv
 ·--unOp
  rename_i ho
  obtain⟨x,hx,hc⟩:=bV hc
  cases hc
  simp only[MOp.val,j5.val,←l7 hrel hx]at hv
  exact c2J ho hv
 ·--convert
  rename_i ho
  obtain⟨x,hx,hc⟩:=bV hc
  split at hc
  ·rename_i h1 h2
   cases hc
   simp only[MOp.val,j5.val,←l7 hrel hx]at hv
   exact b3O ho h1 h2 hv
  ·rename_i h1 h2
   split at hc
   ·rename_i h3
    cases hc
    cases hm
   ·cases hc
  ·exact a2a hrel hc hm hv
 ·--makeFunc
  rename_i ho
  obtain⟨xs,hx,hc⟩:=bV hc
  obtain⟨ys,hy,hc⟩:=bV hc
  cases hc
  cases hv
  exact b4c ho (M4 hrel hx) (M4 hrel hy)
 ·--makeSlice
  rename_i ho
  obtain⟨l,hl,hc⟩:=bV hc
  obtain⟨c,hcc,hc⟩:=bV hc
  split at hc
  ·rename_i hu
   obtain⟨sz,hs,hc⟩:=bV hc
   obtain⟨by_,hb,hc⟩:=bV hc
   obtain⟨z,hz,hc⟩:=bV hc
   split at hc
   ·rename_i hzz
    cases hc
    cases hm
   ·cases hc
  ·cases hc
 ·--slice
  rename_i t x lo hi mx ho
  obtain⟨x',hx,hc⟩:=bV hc
  obtain⟨lo',hlo,hc⟩:=bV hc
  obtain⟨hi',hhi,hc⟩:=bV hc
  obtain⟨mx',hmx,hc⟩:=bV hc
  split at hc
  ·cases hc
  ·rename_i hmh
   have hmh':(mx.isSome&&hi.isNone)=false:=by cases h:(mx.isSome&&hi.isNone)with|true=>exact absurd h hmh|false=>rfl
   have e1:=l7 hrel hx
   have e2:=a2U hrel hlo
   have e3:=a2U hrel hhi
   have e4:=a2U hrel hmx
   split at hc
   ·rename_i hu
    obtain⟨sz,hs,hc⟩:=bV hc
    cases hc
    simp only[MOp.val,j5.val,←e1,←e2,←e3,←e4]at hv
    exact b3P ho hu hs hmh' hv
   ·rename_i hu
    split at hc
    ·cases hc
    ·rename_i hm
     injection hc with hc
     subst hc
     have hmn:mx=none:=by cases mx<;>simp_all
     rw[hmn]at ho
     simp only[MOp.val,j5.val,←e1,←e2,←e3]at hv
     exact b3S ho hu hv
   ·rename_i hu
    obtain⟨sz,hs,hc⟩:=bV hc
    cases hc
    simp only[MOp.val,j5.val,←e1,←e2,←e3,←e4]at hv
    exact b3R ho hu hs hmh' hv
   ·rename_i hu
    split at hc
    ·rename_i hu2
     obtain⟨sz,hs,hc⟩:=bV hc
     cases hc
     simp only[MOp.val,j5.val,←e1,←e2,←e3,←e4]at hv
     exact b3Q ho hu hu2 hs hmh' hv
    ·cases hc
   ·cases hc
 ·--fieldAddr
  rename_i ho
  obtain⟨x,hx,hc⟩:=bV hc
  split at hc
  ·rename_i hu
   split at hc
   ·rename_i hf
    obtain⟨sz,hs,hc⟩:=bV hc
    split at hc
    ·cases hc
    ·rename_i h0
     cases hc
     simp only[MOp.val,j5.val,←l7 hrel hx]at hv
     exact a4e ho hu hf hs h0 hv
   ·cases hc
  ·cases hc
 ·--field
  rename_i ho
  obtain⟨x,hx,hc⟩:=bV hc
  split at hc
  ·rename_i hu
   split at hc
   ·rename_i hf
    obtain⟨sz,hs,hc⟩:=bV hc
    obtain⟨g,hg,hc⟩:=bV hc
    cases hc
    simp only[MOp.val,j5.val,←l7 hrel hx]at hv
    exact b0W ho hu hf hs hg hv
   ·cases hc
  ·cases hc
 ·--indexAddr
  rename_i ho
  obtain⟨x,hx,hc⟩:=bV hc
  obtain⟨i,hi,hc⟩:=bV hc
  split at hc
  ·rename_i hu
   obtain⟨sz,hs,hc⟩:=bV hc
   cases hc
   simp only[MOp.val,j5.val,←l7 hrel hx,←l7 hrel hi]at hv
   exact b4f ho hu hs hv
  ·rename_i hu
   obtain⟨sz,hs,hc⟩:=bV hc
   cases hc
   simp only[MOp.val,j5.val,←l7 hrel hx,←l7 hrel hi]at hv
   exact b4d ho hu hs hv
  ·cases hc
 ·--index
  rename_i ho
  obtain⟨x,hx,hc⟩:=bV hc
  obtain⟨i,hi,hc⟩:=bV hc
  split at hc
  ·rename_i hu
   cases hc
   simp only[MOp.val,j5.val,←l7 hrel hx,←l7 hrel hi]at hv
   exact b4g ho hu hv
  ·rename_i hu
   obtain⟨sz,hs,hc⟩:=bV hc
   obtain⟨g,hg,hc⟩:=bV hc
   cases hc
   simp only[MOp.val,j5.val,←l7 hrel hx,←l7 hrel hi]at hv
   exact b4e ho hu hs hg hv
  ·cases hc
 ·--extract
  rename_i ho
  obtain⟨x,hx,hc⟩:=bV hc
  cases hc
  simp only[MOp.val,j5.val,←l7 hrel hx]at hv
  exact b3Z ho hv
 ·rename_i ho
  split at hc
  ·rename_i m' hm'
   cases hc
   exact a6I ho hrel hm' hm hv
  ·split at hc
   ·cases hc
    cases hm
   ·cases hc
 ·exact a2a hrel hc hm hv
end
section
variable{P:Program}{N:Nat}
theorem Y7{a:Act}{ρ:Env}(hrel:Rel N a ρ){ops:Array Oper}{o:Oper}{g:Option (Nat×Bool)}(hg:a9M N ops.toList o.guard=some g):
  Region.wanted o (yielded ops a.tmps)=O9 ρ g:=by
 unfold a9M at hg
 unfold Region.wanted
 split at hg
 ·rename_i h;cases hg;simp[h,O9]
 ·rename_i j want h
  split at hg
  ·rename_i o' ho'
   split at hg
   ·rename_i d hd
    split at hg
    ·rename_i hlt
     cases hg
     have h1:ops[j]? =some o':=by rw[←a5S];exact ho'
     have h2:a.tmps[d]? =some (ρ d):=by
      have:=hrel.get d
      rw[a1W]at this
      have hs:d<a.tmps.size:=by rw[hrel.size];exact hlt
      rw[Array.getElem?_eq_getElem hs]at this⊢
      exact congrArg some this
     simp only[h,yielded,h1,Option.bind_some,hd,h2,O9]
     cases ρ d<;>simp
    ·cases hg
   ·cases hg
  ·cases hg
def b1k(N:Nat)(ds:List Deferred)(w0:World)(Q:C8→Env→c9→Prop):Exit→Act→World→Prop
 | .normal,a,w=>a.defers=ds∧M0 w0 w∧∃ρ,Rel N a ρ∧Q .normal ρ w.heap
 | .exit id,a,w=>a.defers=ds∧M0 w0 w∧∃ρ,Rel N a ρ∧Q (.exit id) ρ w.heap
 | .ret,a,w=>a.defers=ds∧M0 w0 w∧∃ρ,Rel N a ρ∧Q .ret ρ w.heap
 |_,_,_=>False
theorem R5(a:Act)(d:Option Nat)(v:Value):(a.put d v).defers=a.defers:=by cases d<;>rfl
theorem a5l{ds:List Deferred}{w0:World}{Q:C8→Env→c9→Prop}{ops:Array Oper}:∀(l:List Oper) (ms:List i9) (a:Act) (ρ:Env) (w:World),
  Rel N a ρ→a.defers=ds→M0 w0 w→a1r P N ops.toList l=some ms→N7 P ms (fun ρ h=>Q .normal ρ h) ρ w.heap→wpList P ops (b1k N ds w0 Q) l a w
 | [],ms,a,ρ,w,hrel,hd,ha,hc,h=>by
  cases hc
  exact⟨hd,ha,ρ,hrel,h⟩
 |o::os,ms,a,ρ,w,hrel,hd,ha,hc,h=>by
  simp only[a1r]at hc
  split at hc
  case isFalse=>cases hc
  rename_i hdst
  obtain⟨m,hm,hc⟩:=bV hc
  obtain⟨g,hg,hc⟩:=bV hc
  obtain⟨mr,hr,hc⟩:=bV hc
  cases hc
  simp only[N7,M2]at h
  refine wpList_step fun K hK=> ?_
  rw[Y7 hrel hg]
  split
  ·rename_i hw
   rw[if_pos hw]at h
   refine C2.wp (a3Y hrel hm h) fun v w' ha' hk=>hK _ _ ?_
   exact a5l os mr _ _ w' (hrel.put _ hdst _) (by rw[R5];exact hd) (ha.trans ha') hr hk
  ·rename_i hw
   rw[if_neg hw]at h
   refine hK _ _ ?_
   exact a5l os mr _ _ w (hrel.put _ hdst _) (by rw[R5];exact hd) ha hr h
end
end Go.Proofs.YtjagmebglhbdkaaGreat.MX
