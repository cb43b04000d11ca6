import Derived.Test.YtjagmebglhbdkaaGreatK03
namespace Go.Proofs.YtjagmebglhbdkaaGreat.MX
open Go Go.Proofs
set_option linter.unusedSimpArgs false
set_option linter.unusedVariables false
section
variable{P:Program}{N:Nat}{a:Act}{ρ:Env}{w:World}{K:Value→c9→Prop}
theorem b5e{x y v:Value}(h:b9x x y=some v):(Builtin.min2 x y).run P w= .ok v w:=by
 unfold b9x at h
 split at h
 ·cases h;rfl
 ·cases h
theorem b5c{x y v:Value}(h:b9w x y=some v):(Builtin.max2 x y).run P w= .ok v w:=by
 unfold b9w at h
 split at h
 ·cases h;rfl
 ·cases h
theorem a4y{f:Value→Value→Option Value}{g:Value→Value→Sem Value}(hfg:∀x y v,f x y=some v→(g x y).run P w= .ok v w):∀(ys:List Value) (x v:Value),a3x f x ys=some v→(ys.foldlM g x).run P w= .ok v w
 | [],x,v,h=>by cases h;rfl
 |y::ys,x,v,h=>by
  simp only[a3x]at h
  obtain⟨z,h1,h2⟩:=bV h
  simp only[List.foldlM_cons,Sem.run_bind,hfg x y z h1,Result.andThen_ok]
  exact a4y hfg ys z v h2
theorem a9n{x v:Value}(h:b0o true x=some v):∃s,x= .string s∧v= .int .i64 s.size:=by
 cases x<;>simp[b0o]at h
 exact⟨_,rfl,h.symm⟩
theorem a9m{x v:Value}(h:b0o false x=some v):∃a n c,x= .slice a n c∧v= .int .i64 n:=by
 cases x<;>simp[b0o]at h
 exact⟨_,_,_,rfl,h.symm⟩
theorem b4u{cl:Call}{xs:List Opd}(hrel:Rel N a ρ)(h:b2c N cl.args.toList=some xs):cl.args.map a.eval=(xs.map (ev ρ)).toArray:=by
 apply Array.toList_inj.1
 rw[Array.toList_map,M8 hrel h]
theorem a7e{o:Oper}{c:Call}(ho:o.op= .call c)(hrel:Rel N a ρ){m:MOp}(hc:a2t P N c=some m)(h:m.wp P ρ w.heap K):C4 P o a w K:=by
 unfold a2t at hc
 split at hc
 ·rename_i b hcl
  obtain⟨xs,hxs,hc⟩:=bV hc
  have hargs:=b4u hrel hxs
  split at hc
  ·--len
   rename_i x
   obtain⟨t,ht,hc⟩:=bV hc
   split at hc
   ·rename_i hu
    cases hc
    refine u9 h fun v hv=> ?_
    obtain⟨s,hx,rfl⟩:=a9n hv
    simp[execOp,ho,resolve,hcl,hargs,hx,invoke,builtin,Builtin.len_,ht,l6 hu,goInt]
   ·rename_i hu
    cases hc
    refine u9 h fun v hv=> ?_
    obtain⟨_,n,_,hx,rfl⟩:=a9m hv
    simp[execOp,ho,resolve,hcl,hargs,hx,invoke,builtin,Builtin.len_,ht,l6 hu,goInt]
   ·rename_i hu
    cases hc
    refine u9 (v:=some (.int .i64 _)) h fun v hv=> ?_
    cases hv
    simp[execOp,ho,resolve,hcl,hargs,invoke,builtin,Builtin.len_,ht,l6 hu,goInt]
   ·rename_i hu
    split at hc
    ·rename_i hu2
     cases hc
     refine u9 (v:=some (.int .i64 _)) h fun v hv=> ?_
     cases hv
     simp[execOp,ho,resolve,hcl,hargs,invoke,builtin,Builtin.len_,ht,l6 hu,l6 hu2,goInt]
    ·cases hc
   ·cases hc
  ·--cap
   rename_i x
   obtain⟨t,ht,hc⟩:=bV hc
   split at hc
   ·rename_i hu
    cases hc
    refine u9 h fun v hv=> ?_
    simp only[j7.val]at hv
    unfold b8s at hv
    split at hv<;>first|(cases hv;done)|skip
    cases hv;rename_i hx
    simp[execOp,ho,resolve,hcl,hargs,hx,invoke,builtin,Builtin.cap_,ht,l6 hu,goInt]
   ·cases hc
  ·rename_i x ys
   cases hc
   refine u9 h fun v hv=> ?_
   simp only[j7.val]at hv
   have hf:=a4y (P:=P) (w:=w) (g:=Builtin.min2) (fun x y v=>b5e) _ _ _ hv
   simp[execOp,ho,resolve,hcl,hargs,invoke,builtin,Builtin.min_,hf]
  ·rename_i x ys
   cases hc
   refine u9 h fun v hv=> ?_
   simp only[j7.val]at hv
   have hf:=a4y (P:=P) (w:=w) (g:=Builtin.max2) (fun x y v=>b5c) _ _ _ hv
   simp[execOp,ho,resolve,hcl,hargs,invoke,builtin,Builtin.max_,hf]
  ·--append
   rename_i x y _
   obtain⟨t,ht,hc⟩:=bV hc
   obtain⟨u,ht2,hc⟩:=bV hc
   obtain⟨x',y',hx⟩:∃x' y',c.args.toList=[x',y']∧a.eval x'=ev ρ x∧a.eval y'=ev ρ y:=by
    have:=M8 hrel hxs
    match hl:c.args.toList with
    | []=>simp[hl]at this
    | [_]=>simp[hl]at this
    | [p,q]=>rw[hl]at this;simp at this;exact⟨p,q,rfl,this.1,this.2⟩
    |_::_::_::_=>simp[hl]at this
   obtain⟨hx,hex,hey⟩:=hx
   split at hc
   ·rename_i e e' hu hd
    obtain⟨sz,hs,hc⟩:=bV hc
    obtain⟨by_,hb,hc⟩:=bV hc
    obtain⟨z,hz,hc⟩:=bV hc
    split at hc
    ·rename_i hl
     cases hc
     exact a8K ho hcl hx ht ht2 hu hd (.inl ⟨_,rfl⟩) hs hb hz hl (by rw[hex,hey];exact h)
    ·cases hc
   ·rename_i e hu hd
    obtain⟨sz,hs,hc⟩:=bV hc
    obtain⟨by_,hb,hc⟩:=bV hc
    obtain⟨z,hz,hc⟩:=bV hc
    split at hc
    ·rename_i hl
     cases hc
     exact a8K ho hcl hx ht ht2 hu hd (.inr rfl) hs hb hz hl (by rw[hex,hey];exact h)
    ·cases hc
   ·cases hc
  ·--copy
   rename_i x y _
   obtain⟨t,ht,hc⟩:=bV hc
   obtain⟨x',y',hx⟩:∃x' y',c.args.toList=[x',y']∧a.eval x'=ev ρ x∧a.eval y'=ev ρ y:=by
    have:=M8 hrel hxs
    match hl:c.args.toList with
    | []=>simp[hl]at this
    | [_]=>simp[hl]at this
    | [p,q]=>rw[hl]at this;simp at this;exact⟨p,q,rfl,this.1,this.2⟩
    |_::_::_::_=>simp[hl]at this
   obtain⟨hx,hex,hey⟩:=hx
   split at hc
   ·rename_i e hu
    obtain⟨sz,hs,hc⟩:=bV hc
    split at hc
    ·cases hc
     exact c1P ho hcl hx ht hu hs (by rw[hex,hey];exact h)
    ·cases hc
   ·cases hc
  ·--clear
   rename_i x _
   obtain⟨t,ht,hc⟩:=bV hc
   obtain⟨x',hx,hex⟩:∃x',c.args.toList=[x']∧a.eval x'=ev ρ x:=by
    have:=M8 hrel hxs
    match hl:c.args.toList with
    | []=>simp[hl]at this
    | [p]=>rw[hl]at this;simp at this;exact⟨p,rfl,this⟩
    |_::_::_=>simp[hl]at this
   split at hc
   ·rename_i e hu
    obtain⟨sz,hs,hc⟩:=bV hc
    obtain⟨z,hz,hc⟩:=bV hc
    split at hc
    ·rename_i hl
     cases hc
     exact b8y ho hcl hx ht hu hz (by rw[hl.1];exact hl.2) (by rw[hex];exact h)
    ·cases hc
   ·cases hc
  ·cases hc
 ·rename_i f hcl
  obtain⟨y,hy,hc⟩:=bV hc
  obtain⟨xs,hxs,hc⟩:=bV hc
  have he:=n6 hrel hy
  have hargs:=M8 hrel hxs
  split at hc
  ·rename_i g p q
   split at hc
   ·rename_i hok
    simp only[a1P,Array.isEmpty_iff]at hok
    obtain⟨⟨rfl,rfl⟩,hok⟩:=hok
    cases hc
    exact c1L ho ⟨f,hcl,he⟩ hargs hok h
   ·cases hc
  ·cases hc
   exact b8r ho hcl hargs (by rw[he];exact h)
  ·cases hc
 ·cases hc
theorem a2r{o:Oper}(hrel:Rel N a ρ){m:MOp}(hc:a6S N o=some m)(h:m.wp P ρ w.heap K):C4 P o a w K:=by
 unfold a6S at hc
 split at hc
 ·cases hc
 ·cases hc
 ·split at hc
  ·rename_i hall
   cases hc
   exact b8e hrel hall h
  ·cases hc
theorem a1l{o:Oper}{op:BinOp}{T yT:TypeId}{x y:Operand}(ho:o.op= .binOp op T x y yT){k:EK}{d:TypeDesc}(hu:P.underlying T=some d)(hd:b8N k d=true)
  {x' y':Opd} (hx:a.eval x=ev ρ x') (hy:a.eval y=ev ρ y') {m:MOp}
  (hc:(op= .eql∧m= .p (.eq k false x' y'))∨(op= .neq∧m= .p (.eq k true x' y'))) (h:m.wp P ρ w.heap K):C4 P o a w K:=by
 rcases hc with⟨rfl,rfl⟩|⟨rfl,rfl⟩
 ·refine u9 h fun v hv=> ?_
  simp only[j7.val,←hx,←hy]at hv
  exact b4N ho hu hd (neg:=false) rfl hv
 ·refine u9 h fun v hv=> ?_
  simp only[j7.val,←hx,←hy]at hv
  exact b4N ho hu hd (neg:=true) rfl hv
set_option maxHeartbeats 1000000 in
theorem a4o{o:Oper}(hrel:Rel N a ρ){m:MOp}(hc:a5j P N o=some m)(h:m.wp P ρ w.heap K):C4 P o a w K:=by
 unfold a5j at hc
 split at hc
 ·--move
  rename_i ho
  obtain⟨x,hx,hc⟩:=bV hc
  cases hc
  refine C4.value (v:=ev ρ x) ?_ h
  simp[execOp,ho,n6 hrel hx]
 ·rename_i ho
  obtain⟨x,hx,hc⟩:=bV hc
  cases hc
  refine C4.value (v:=ev ρ x) ?_ h
  simp[execOp,ho,n6 hrel hx]
 ·--pick
  rename_i ho
  obtain⟨c,h1,hc⟩:=bV hc
  obtain⟨x,h2,hc⟩:=bV hc
  obtain⟨y,h3,hc⟩:=bV hc
  cases hc
  refine u9 h fun v hv=> ?_
  have:=b5q (P:=P) (w:=w) hv
  simp only[execOp,ho,n6 hrel h1,n6 hrel h2,n6 hrel h3]
  exact this
 ·rename_i ho
  obtain⟨z,hz,hc⟩:=bV hc
  cases hc
  exact b8b ho hz h
 ·rename_i e x ho
  obtain⟨x',hx,hc⟩:=bV hc
  cases hc
  refine c3L ho ?_
  rw[n6 hrel hx]
  exact h
 ·--build
  rename_i ho
  obtain⟨z,hz,hc⟩:=bV hc
  split at hc
  ·rename_i fs hu
   split at hc
   ·rename_i hall
    obtain⟨ps,hp,hc⟩:=bV hc
    cases hc
    exact u9 h fun v hv=>b1n hrel ho hz hu hall hp hv
   ·cases hc
  ·rename_i hu
   obtain⟨sz,hs,hc⟩:=bV hc
   obtain⟨ps,hp,hc⟩:=bV hc
   cases hc
   exact u9 h fun v hv=>a8M hrel ho hz hu hs hp hv
  ·cases hc
 ·--buildSlice
  rename_i ho
  split at hc
  ·rename_i hu
   obtain⟨sz,hs,hc⟩:=bV hc
   obtain⟨z,hz,hc⟩:=bV hc
   split at hc
   ·rename_i hl
    obtain⟨ps,hp,hc⟩:=bV hc
    cases hc
    exact b6q hrel ho hu hs hz hl hp h
   ·cases hc
  ·cases hc
 ·--load
  rename_i ho
  obtain⟨x,hx,hc⟩:=bV hc
  obtain⟨g,hg,hc⟩:=bV hc
  split at hc
  ·rename_i hgt
   subst hgt
   obtain⟨n,hn,hc⟩:=bV hc
   cases hc
   refine u9 h fun v hv=> ?_
   simp only[a2o.val,←n6 hrel hx]at hv
   exact b1S ho hg hn hv
  ·rename_i hgt
   obtain rfl:g=false:=by simpa using hgt
   cases hc
   refine u9 h fun v hv=> ?_
   simp only[a2o.val,←n6 hrel hx]at hv
   exact b1R ho hg hv
 ·--store
  rename_i ho
  obtain⟨x,hx,hc⟩:=bV hc
  obtain⟨y,hy,hc⟩:=bV hc
  obtain⟨n,hn,hc⟩:=bV hc
  cases hc
  obtain⟨hl,hw⟩:=h
  exact c0F ho hn (by rw[n6 hrel hy];exact hl) (by rw[n6 hrel hy,n6 hrel hx];exact hw)
 ·--nilCheck
  rename_i ho
  obtain⟨x,hx,hc⟩:=bV hc
  cases hc
  refine u9 h fun v hv=> ?_
  simp only[j7.val,←n6 hrel hx]at hv
  exact b9J ho hv
 ·--binOp
  rename_i op t x y yT ho
  obtain⟨x',hx,hc⟩:=bV hc
  obtain⟨y',hy,hc⟩:=bV hc
  have ex:=n6 hrel hx
  have ey:=n6 hrel hy
  split at hc
  ·cases hc
   refine u9 h fun v hv=> ?_
   simp only[j7.val,←ex,←ey]at hv
   exact b0c ho hv
  ·cases hc
   refine u9 h fun v hv=> ?_
   simp only[j7.val,←ex,←ey]at hv
   exact b0c ho hv
  ·rename_i hu
   exact a1l (k:= .b) ho hu rfl ex ey (by split at hc<;>simp_all) h
  ·rename_i hu
   exact a1l (k:= .p) ho hu rfl ex ey (by split at hc<;>simp_all) h
  ·rename_i hu
   exact a1l (k:= .s) ho hu rfl ex ey (by split at hc<;>simp_all) h
  ·rename_i hu
   exact a1l (k:= .m) ho hu rfl ex ey (by split at hc<;>simp_all) h
  ·rename_i hu
   exact a1l (k:= .f) ho hu rfl ex ey (by split at hc<;>simp_all) h
  ·rename_i hu
   ·obtain⟨ks,hk,hc⟩:=bV hc
    have hgt:P.eqGuardType P.depth t=false:=a0P hk
    have hag:x8 P t=some true:=by simp only[x8,hu]
    have hcc:(op= .eql∧m= .p (.eqA ks false x' y'))∨(op= .neq∧m= .p (.eqA ks true x' y')):=by split at hc<;>simp_all
    rcases hcc with⟨rfl,rfl⟩|⟨rfl,rfl⟩
    ·refine u9 h fun v hv=> ?_
     simp only[j7.val,←ex,←ey]at hv
     exact a2x ho hag hgt hk (neg:=false) rfl hv
    ·refine u9 h fun v hv=> ?_
     simp only[j7.val,←ex,←ey]at hv
     exact a2x ho hag hgt hk (neg:=true) rfl hv
  ·rename_i hu
   ·obtain⟨ks,hk,hc⟩:=bV hc
    have hgt:P.eqGuardType P.depth t=false:=a0P hk
    have hag:x8 P t=some true:=by simp only[x8,hu]
    have hcc:(op= .eql∧m= .p (.eqA ks false x' y'))∨(op= .neq∧m= .p (.eqA ks true x' y')):=by split at hc<;>simp_all
    rcases hcc with⟨rfl,rfl⟩|⟨rfl,rfl⟩
    ·refine u9 h fun v hv=> ?_
     simp only[j7.val,←ex,←ey]at hv
     exact a2x ho hag hgt hk (neg:=false) rfl hv
    ·refine u9 h fun v hv=> ?_
     simp only[j7.val,←ex,←ey]at hv
     exact a2x ho hag hgt hk (neg:=true) rfl hv
  ·exact a2r hrel hc h
 ·--unOp
  rename_i ho
  obtain⟨x,hx,hc⟩:=bV hc
  cases hc
  refine u9 h fun v hv=> ?_
  simp only[j7.val,←n6 hrel hx]at hv
  exact c3y ho hv
 ·--convert
  rename_i ho
  obtain⟨x,hx,hc⟩:=bV hc
  split at hc
  ·rename_i h1 h2
   cases hc
   refine u9 h fun v hv=> ?_
   simp only[j7.val,←n6 hrel hx]at hv
   exact b4D ho h1 h2 hv
  ·rename_i h1 h2
   split at hc
   ·rename_i h3
    cases hc
    exact c4z ho h1 h2 h3 (by rw[n6 hrel hx];exact h)
   ·cases hc
  ·exact a2r hrel hc h
 ·--makeFunc
  rename_i ho
  obtain⟨xs,hx,hc⟩:=bV hc
  obtain⟨ys,hy,hc⟩:=bV hc
  cases hc
  refine u9 (v:=some (.func _ _ _)) h fun v hv=> ?_
  cases hv
  exact b4R ho (M8 hrel hx) (M8 hrel hy)
 ·--makeSlice
  rename_i ho
  obtain⟨l,hl,hc⟩:=bV hc
  obtain⟨c,hcc,hc⟩:=bV hc
  split at hc
  ·rename_i hu
   obtain⟨sz,hs,hc⟩:=bV hc
   obtain⟨by_,hb,hc⟩:=bV hc
   obtain⟨z,hz,hc⟩:=bV hc
   split at hc
   ·rename_i hzz
    cases hc
    exact c5n ho hu hs hb hz hzz (by rw[n6 hrel hl,n6 hrel hcc];exact h)
   ·cases hc
  ·cases hc
 ·--slice
  rename_i t x lo hi mx ho
  obtain⟨x',hx,hc⟩:=bV hc
  obtain⟨lo',hlo,hc⟩:=bV hc
  obtain⟨hi',hhi,hc⟩:=bV hc
  obtain⟨mx',hmx,hc⟩:=bV hc
  split at hc
  ·cases hc
  ·rename_i hmh
   have hmh':(mx.isSome&&hi.isNone)=false:=by cases h:(mx.isSome&&hi.isNone)with|true=>exact absurd h hmh|false=>rfl
   have e1:=n6 hrel hx
   have e2:=a3k hrel hlo
   have e3:=a3k hrel hhi
   have e4:=a3k hrel hmx
   split at hc
   ·rename_i hu
    obtain⟨sz,hs,hc⟩:=bV hc
    cases hc
    refine u9 h fun v hv=> ?_
    simp only[j7.val,←e1,←e2,←e3,←e4]at hv
    exact b4E ho hu hs hmh' hv
   ·rename_i hu
    split at hc
    ·cases hc
    ·rename_i hm
     injection hc with hc
     subst hc
     have hmn:mx=none:=by cases mx<;>simp_all
     rw[hmn]at ho
     refine u9 h fun v hv=> ?_
     simp only[j7.val,←e1,←e2,←e3]at hv
     exact b4H ho hu hv
   ·rename_i hu
    obtain⟨sz,hs,hc⟩:=bV hc
    cases hc
    refine u9 h fun v hv=> ?_
    simp only[j7.val,←e1,←e2,←e3,←e4]at hv
    exact b4G ho hu hs hmh' hv
   ·rename_i hu
    split at hc
    ·rename_i hu2
     obtain⟨sz,hs,hc⟩:=bV hc
     cases hc
     refine u9 h fun v hv=> ?_
     simp only[j7.val,←e1,←e2,←e3,←e4]at hv
     exact b4F ho hu hu2 hs hmh' hv
    ·cases hc
   ·cases hc
 ·--fieldAddr
  rename_i ho
  obtain⟨x,hx,hc⟩:=bV hc
  split at hc
  ·rename_i hu
   split at hc
   ·rename_i hf
    obtain⟨sz,hs,hc⟩:=bV hc
    split at hc
    ·cases hc
    ·rename_i h0
     cases hc
     refine u9 h fun v hv=> ?_
     simp only[j7.val,←n6 hrel hx]at hv
     exact a4v ho hu hf hs h0 hv
   ·cases hc
  ·cases hc
 ·--field
  rename_i ho
  obtain⟨x,hx,hc⟩:=bV hc
  split at hc
  ·rename_i hu
   split at hc
   ·rename_i hf
    obtain⟨sz,hs,hc⟩:=bV hc
    obtain⟨g,hg,hc⟩:=bV hc
    cases hc
    refine u9 h fun v hv=> ?_
    simp only[j7.val,←n6 hrel hx]at hv
    exact b1A ho hu hf hs hg hv
   ·cases hc
  ·cases hc
 ·--indexAddr
  rename_i ho
  obtain⟨x,hx,hc⟩:=bV hc
  obtain⟨i,hi,hc⟩:=bV hc
  split at hc
  ·rename_i hu
   obtain⟨sz,hs,hc⟩:=bV hc
   cases hc
   refine u9 h fun v hv=> ?_
   simp only[j7.val,←n6 hrel hx,←n6 hrel hi]at hv
   exact b4U ho hu hs hv
  ·rename_i hu
   obtain⟨sz,hs,hc⟩:=bV hc
   cases hc
   refine u9 h fun v hv=> ?_
   simp only[j7.val,←n6 hrel hx,←n6 hrel hi]at hv
   exact b4S ho hu hs hv
  ·cases hc
 ·--index
  rename_i ho
  obtain⟨x,hx,hc⟩:=bV hc
  obtain⟨i,hi,hc⟩:=bV hc
  split at hc
  ·rename_i hu
   cases hc
   refine u9 h fun v hv=> ?_
   simp only[j7.val,←n6 hrel hx,←n6 hrel hi]at hv
   exact b4V ho hu hv
  ·rename_i hu
   obtain⟨sz,hs,hc⟩:=bV hc
   obtain⟨g,hg,hc⟩:=bV hc
   cases hc
   refine u9 h fun v hv=> ?_
   simp only[j7.val,←n6 hrel hx,←n6 hrel hi]at hv
   exact b4T ho hu hs hg hv
  ·cases hc
 ·--extract
  rename_i ho
  obtain⟨x,hx,hc⟩:=bV hc
  cases hc
  refine u9 h fun v hv=> ?_
  simp only[j7.val,←n6 hrel hx]at hv
  exact b4O ho hv
 ·rename_i ho
  split at hc
  ·rename_i m' hm'
   cases hc
   exact a7e ho hrel hm' h
  ·split at hc
   ·rename_i hall
    cases hc
    exact b8e hrel hall h
   ·cases hc
 ·exact a2r hrel hc h
end
section
variable{P:Program}{N:Nat}{a:Act}{ρ:Env}{w:World}
def MOp.val(ρ:Env)(h:c9):MOp→Option Value
 | .p x=>x.val ρ
 | .r x=>x.val ρ h
 | .e _=>none
theorem a7d{o:Oper}{c:Call}(ho:o.op= .call c)(hrel:Rel N a ρ){m:MOp}(hc:a2t P N c=some m)(hm:a9i m=false){v:Value}(hv:m.val ρ w.heap=some v):(execOp a.eval o).run P w= .ok (.value v) w:=by
 unfold a2t at hc
 split at hc
 ·rename_i b hcl
  obtain⟨xs,hxs,hc⟩:=bV hc
  have hargs:=b4u hrel hxs
  split at hc
  ·--len
   rename_i x
   obtain⟨t,ht,hc⟩:=bV hc
   split at hc
   ·rename_i hu
    cases hc
    obtain⟨s,hx,rfl⟩:=a9n (x:=ev ρ _) hv
    simp[execOp,ho,resolve,hcl,hargs,hx,invoke,builtin,Builtin.len_,ht,l6 hu,goInt]
   ·rename_i hu
    cases hc
    obtain⟨_,n,_,hx,rfl⟩:=a9m (x:=ev ρ _) hv
    simp[execOp,ho,resolve,hcl,hargs,hx,invoke,builtin,Builtin.len_,ht,l6 hu,goInt]
   ·rename_i hu
    cases hc
    cases hv
    simp[execOp,ho,resolve,hcl,hargs,invoke,builtin,Builtin.len_,ht,l6 hu,goInt]
   ·rename_i hu
    split at hc
    ·rename_i hu2
     cases hc
     cases hv
     simp[execOp,ho,resolve,hcl,hargs,invoke,builtin,Builtin.len_,ht,l6 hu,l6 hu2,goInt]
    ·cases hc
   ·cases hc
  ·--cap
   rename_i x
   obtain⟨t,ht,hc⟩:=bV hc
   split at hc
   ·rename_i hu
    cases hc
    simp only[MOp.val,j7.val]at hv
    unfold b8s at hv
    split at hv<;>first|(cases hv;done)|skip
    cases hv;rename_i hx
    simp[execOp,ho,resolve,hcl,hargs,hx,invoke,builtin,Builtin.cap_,ht,l6 hu,goInt]
   ·cases hc
  ·rename_i x ys
   cases hc
   simp only[MOp.val,j7.val]at hv
   have hf:=a4y (P:=P) (w:=w) (g:=Builtin.min2) (fun x y v=>b5e) _ _ _ hv
   simp[execOp,ho,resolve,hcl,hargs,invoke,builtin,Builtin.min_,hf]
  ·rename_i x ys
   cases hc
   simp only[MOp.val,j7.val]at hv
   have hf:=a4y (P:=P) (w:=w) (g:=Builtin.max2) (fun x y v=>b5c) _ _ _ hv
   simp[execOp,ho,resolve,hcl,hargs,invoke,builtin,Builtin.max_,hf]
  ·--append
   rename_i x y _
   obtain⟨t,ht,hc⟩:=bV hc
   obtain⟨u,ht2,hc⟩:=bV hc
   obtain⟨x',y',hx⟩:∃x' y',c.args.toList=[x',y']∧a.eval x'=ev ρ x∧a.eval y'=ev ρ y:=by
    have:=M8 hrel hxs
    match hl:c.args.toList with
    | []=>simp[hl]at this
    | [_]=>simp[hl]at this
    | [p,q]=>rw[hl]at this;simp at this;exact⟨p,q,rfl,this.1,this.2⟩
    |_::_::_::_=>simp[hl]at this
   obtain⟨hx,hex,hey⟩:=hx
   split at hc
   ·rename_i e e' hu hd
    obtain⟨sz,hs,hc⟩:=bV hc
    obtain⟨by_,hb,hc⟩:=bV hc
    obtain⟨z,hz,hc⟩:=bV hc
    split at hc
    ·rename_i hl
     cases hc
     cases hm
    ·cases hc
   ·rename_i e hu hd
    obtain⟨sz,hs,hc⟩:=bV hc
    obtain⟨by_,hb,hc⟩:=bV hc
    obtain⟨z,hz,hc⟩:=bV hc
    split at hc
    ·rename_i hl
     cases hc
     cases hm
    ·cases hc
   ·cases hc
  ·--copy
   rename_i x y _
   obtain⟨t,ht,hc⟩:=bV hc
   obtain⟨x',y',hx⟩:∃x' y',c.args.toList=[x',y']∧a.eval x'=ev ρ x∧a.eval y'=ev ρ y:=by
    have:=M8 hrel hxs
    match hl:c.args.toList with
    | []=>simp[hl]at this
    | [_]=>simp[hl]at this
    | [p,q]=>rw[hl]at this;simp at this;exact⟨p,q,rfl,this.1,this.2⟩
    |_::_::_::_=>simp[hl]at this
   obtain⟨hx,hex,hey⟩:=hx
   split at hc
   ·rename_i e hu
    obtain⟨sz,hs,hc⟩:=bV hc
    split at hc
    ·cases hc
     cases hm
    ·cases hc
   ·cases hc
  ·--clear
   rename_i x _
   obtain⟨t,ht,hc⟩:=bV hc
   obtain⟨x',hx,hex⟩:∃x',c.args.toList=[x']∧a.eval x'=ev ρ x:=by
    have:=M8 hrel hxs
    match hl:c.args.toList with
    | []=>simp[hl]at this
    | [p]=>rw[hl]at this;simp at this;exact⟨p,rfl,this⟩
    |_::_::_=>simp[hl]at this
   split at hc
   ·rename_i e hu
    obtain⟨sz,hs,hc⟩:=bV hc
    obtain⟨z,hz,hc⟩:=bV hc
    split at hc
    ·rename_i hl
     cases hc
     cases hm
    ·cases hc
   ·cases hc
  ·cases hc
 ·rename_i f hcl
  obtain⟨y,hy,hc⟩:=bV hc
  obtain⟨xs,hxs,hc⟩:=bV hc
  have he:=n6 hrel hy
  have hargs:=M8 hrel hxs
  split at hc
  ·rename_i g p q
   split at hc
   ·rename_i hok
    simp only[a1P,Array.isEmpty_iff]at hok
    obtain⟨⟨rfl,rfl⟩,hok⟩:=hok
    cases hc
    cases hm
   ·cases hc
  ·cases hc
   cases hm
  ·cases hc
 ·cases hc
theorem a2q{o:Oper}(hrel:Rel N a ρ){m:MOp}(hc:a6S N o=some m)(hm:a9i m=false){v:Value}(hv:m.val ρ w.heap=some v):(execOp a.eval o).run P w= .ok (.value v) w:=by
 unfold a6S at hc
 split at hc
 ·cases hc
 ·cases hc
 ·split at hc
  ·rename_i hall
   cases hc
   cases hm
  ·cases hc
theorem a1k{o:Oper}{op:BinOp}{T yT:TypeId}{x y:Operand}(ho:o.op= .binOp op T x y yT){k:EK}{d:TypeDesc}(hu:P.underlying T=some d)(hd:b8N k d=true)
  {x' y':Opd} (hx:a.eval x=ev ρ x') (hy:a.eval y=ev ρ y') {m:MOp}
  (hc:(op= .eql∧m= .p (.eq k false x' y'))∨(op= .neq∧m= .p (.eq k true x' y'))) (hm:a9i m=false) {v:Value} (hv:m.val ρ w.heap=some v):(execOp a.eval o).run P w= .ok (.value v) w:=by
 rcases hc with⟨rfl,rfl⟩|⟨rfl,rfl⟩
 ·simp only[MOp.val,j7.val,←hx,←hy]at hv
  exact b4N ho hu hd (neg:=false) rfl hv
 ·simp only[MOp.val,j7.val,←hx,←hy]at hv
  exact b4N ho hu hd (neg:=true) rfl hv
set_option maxHeartbeats 1000000 in
theorem a4n{o:Oper}(hrel:Rel N a ρ){m:MOp}(hc:a5j P N o=some m)(hm:a9i m=false){v:Value}(hv:m.val ρ w.heap=some v):(execOp a.eval o).run P w= .ok (.value v) w:=by
 unfold a5j at hc
 split at hc
 ·--move
  rename_i ho
  obtain⟨x,hx,hc⟩:=bV hc
  cases hc
  cases hv
  simp[execOp,ho,n6 hrel hx]
 ·rename_i ho
  obtain⟨x,hx,hc⟩:=bV hc
  cases hc
  cases hv
  simp[execOp,ho,n6 hrel hx]
 ·--pick
  rename_i ho
  obtain⟨c,h1,hc⟩:=bV hc
  obtain⟨x,h2,hc⟩:=bV hc
  obtain⟨y,h3,hc⟩:=bV hc
  cases hc
  have:=b5q (P:=P) (w:=w) hv
  simp only[execOp,ho,n6 hrel h1,n6 hrel h2,n6 hrel h3]
  exact this
 ·rename_i ho
  obtain⟨z,hz,hc⟩:=bV hc
  cases hc
  cases hm
 ·rename_i e x ho
  obtain⟨x',hx,hc⟩:=bV hc
  cases hc
  cases hm
 ·--build
  rename_i ho
  obtain⟨z,hz,hc⟩:=bV hc
  split at hc
  ·rename_i fs hu
   split at hc
   ·rename_i hall
    obtain⟨ps,hp,hc⟩:=bV hc
    cases hc
    exact b1n hrel ho hz hu hall hp hv
   ·cases hc
  ·rename_i hu
   obtain⟨sz,hs,hc⟩:=bV hc
   obtain⟨ps,hp,hc⟩:=bV hc
   cases hc
   exact a8M hrel ho hz hu hs hp hv
  ·cases hc
 ·--buildSlice
  rename_i ho
  split at hc
  ·rename_i hu
   obtain⟨sz,hs,hc⟩:=bV hc
   obtain⟨z,hz,hc⟩:=bV hc
   split at hc
   ·rename_i hl
    obtain⟨ps,hp,hc⟩:=bV hc
    cases hc
    cases hm
   ·cases hc
  ·cases hc
 ·--load
  rename_i ho
  obtain⟨x,hx,hc⟩:=bV hc
  obtain⟨g,hg,hc⟩:=bV hc
  split at hc
  ·rename_i hgt
   subst hgt
   obtain⟨n,hn,hc⟩:=bV hc
   cases hc
   simp only[MOp.val,a2o.val,←n6 hrel hx]at hv
   exact b1S ho hg hn hv
  ·rename_i hgt
   obtain rfl:g=false:=by simpa using hgt
   cases hc
   simp only[MOp.val,a2o.val,←n6 hrel hx]at hv
   exact b1R ho hg hv
 ·--store
  rename_i ho
  obtain⟨x,hx,hc⟩:=bV hc
  obtain⟨y,hy,hc⟩:=bV hc
  obtain⟨n,hn,hc⟩:=bV hc
  cases hc
  cases hm
 ·--nilCheck
  rename_i ho
  obtain⟨x,hx,hc⟩:=bV hc
  cases hc
  simp only[MOp.val,j7.val,←n6 hrel hx]at hv
  exact b9J ho hv
 ·--binOp
  rename_i op t x y yT ho
  obtain⟨x',hx,hc⟩:=bV hc
  obtain⟨y',hy,hc⟩:=bV hc
  have ex:=n6 hrel hx
  have ey:=n6 hrel hy
  split at hc
  ·cases hc
   simp only[MOp.val,j7.val,←ex,←ey]at hv
   exact b0c ho hv
  ·cases hc
   simp only[MOp.val,j7.val,←ex,←ey]at hv
   exact b0c ho hv
  ·rename_i hu
   exact a1k (k:= .b) ho hu rfl ex ey (by split at hc<;>simp_all) hm hv
  ·rename_i hu
   exact a1k (k:= .p) ho hu rfl ex ey (by split at hc<;>simp_all) hm hv
  ·rename_i hu
   exact a1k (k:= .s) ho hu rfl ex ey (by split at hc<;>simp_all) hm hv
  ·rename_i hu
   exact a1k (k:= .m) ho hu rfl ex ey (by split at hc<;>simp_all) hm hv
  ·rename_i hu
   exact a1k (k:= .f) ho hu rfl ex ey (by split at hc<;>simp_all) hm hv
  ·rename_i hu
   ·obtain⟨ks,hk,hc⟩:=bV hc
    have hgt:P.eqGuardType P.depth t=false:=a0P hk
    have hag:x8 P t=some true:=by simp only[x8,hu]
    have hcc:(op= .eql∧m= .p (.eqA ks false x' y'))∨(op= .neq∧m= .p (.eqA ks true x' y')):=by split at hc<;>simp_all
    rcases hcc with⟨rfl,rfl⟩|⟨rfl,rfl⟩
    ·simp only[MOp.val,j7.val,←ex,←ey]at hv
     exact a2x ho hag hgt hk (neg:=false) rfl hv
    ·simp only[MOp.val,j7.val,←ex,←ey]at hv
     exact a2x ho hag hgt hk (neg:=true) rfl hv
  ·rename_i hu
   ·obtain⟨ks,hk,hc⟩:=bV hc
    have hgt:P.eqGuardType P.depth t=false:=a0P hk
    have hag:x8 P t=some true:=by simp only[x8,hu]
    have hcc:(op= .eql∧m= .p (.eqA ks false x' y'))∨(op= .neq∧m= .p (.eqA ks true x' y')):=by split at hc<;>simp_all
    rcases hcc with⟨rfl,rfl⟩|⟨rfl,rfl⟩
    ·simp only[MOp.val,j7.val,←ex,←ey]at hv
     exact a2x ho hag hgt hk (neg:=false) rfl hv
    ·simp only[MOp.val,j7.val,←ex,←ey]at hv
     exact a2x ho hag hgt hk (neg:=true) rfl hv
  ·exact a2q hrel hc hm hv
 ·--unOp
  rename_i ho
  obtain⟨x,hx,hc⟩:=bV hc
  cases hc
  simp only[MOp.val,j7.val,←n6 hrel hx]at hv
  exact c3y ho hv
 ·--convert
  rename_i ho
  obtain⟨x,hx,hc⟩:=bV hc
  split at hc
  ·rename_i h1 h2
   cases hc
   simp only[MOp.val,j7.val,←n6 hrel hx]at hv
   exact b4D ho h1 h2 hv
  ·rename_i h1 h2
   split at hc
   ·rename_i h3
    cases hc
    cases hm
   ·cases hc
  ·exact a2q hrel hc hm hv
 ·--makeFunc
  rename_i ho
  obtain⟨xs,hx,hc⟩:=bV hc
  obtain⟨ys,hy,hc⟩:=bV hc
  cases hc
  cases hv
  exact b4R ho (M8 hrel hx) (M8 hrel hy)
 ·--makeSlice
  rename_i ho
  obtain⟨l,hl,hc⟩:=bV hc
  obtain⟨c,hcc,hc⟩:=bV hc
  split at hc
  ·rename_i hu
   obtain⟨sz,hs,hc⟩:=bV hc
   obtain⟨by_,hb,hc⟩:=bV hc
   obtain⟨z,hz,hc⟩:=bV hc
   split at hc
   ·rename_i hzz
    cases hc
    cases hm
   ·cases hc
  ·cases hc
 ·--slice
  rename_i t x lo hi mx ho
  obtain⟨x',hx,hc⟩:=bV hc
  obtain⟨lo',hlo,hc⟩:=bV hc
  obtain⟨hi',hhi,hc⟩:=bV hc
  obtain⟨mx',hmx,hc⟩:=bV hc
  split at hc
  ·cases hc
  ·rename_i hmh
   have hmh':(mx.isSome&&hi.isNone)=false:=by cases h:(mx.isSome&&hi.isNone)with|true=>exact absurd h hmh|false=>rfl
   have e1:=n6 hrel hx
   have e2:=a3k hrel hlo
   have e3:=a3k hrel hhi
   have e4:=a3k hrel hmx
   split at hc
   ·rename_i hu
    obtain⟨sz,hs,hc⟩:=bV hc
    cases hc
    simp only[MOp.val,j7.val,←e1,←e2,←e3,←e4]at hv
    exact b4E ho hu hs hmh' hv
   ·rename_i hu
    split at hc
    ·cases hc
    ·rename_i hm
     injection hc with hc
     subst hc
     have hmn:mx=none:=by cases mx<;>simp_all
     rw[hmn]at ho
     simp only[MOp.val,j7.val,←e1,←e2,←e3]at hv
     exact b4H ho hu hv
   ·rename_i hu
    obtain⟨sz,hs,hc⟩:=bV hc
    cases hc
    simp only[MOp.val,j7.val,←e1,←e2,←e3,←e4]at hv
    exact b4G ho hu hs hmh' hv
   ·rename_i hu
    split at hc
    ·rename_i hu2
     obtain⟨sz,hs,hc⟩:=bV hc
     cases hc
     simp only[MOp.val,j7.val,←e1,←e2,←e3,←e4]at hv
     exact b4F ho hu hu2 hs hmh' hv
    ·cases hc
   ·cases hc
 ·--fieldAddr
  rename_i ho
  obtain⟨x,hx,hc⟩:=bV hc
  split at hc
  ·rename_i hu
   split at hc
   ·rename_i hf
    obtain⟨sz,hs,hc⟩:=bV hc
    split at hc
    ·cases hc
    ·rename_i h0
     cases hc
     simp only[MOp.val,j7.val,←n6 hrel hx]at hv
     exact a4v ho hu hf hs h0 hv
   ·cases hc
  ·cases hc
 ·--field
  rename_i ho
  obtain⟨x,hx,hc⟩:=bV hc
  split at hc
  ·rename_i hu
   split at hc
   ·rename_i hf
    obtain⟨sz,hs,hc⟩:=bV hc
    obtain⟨g,hg,hc⟩:=bV hc
    cases hc
    simp only[MOp.val,j7.val,←n6 hrel hx]at hv
    exact b1A ho hu hf hs hg hv
   ·cases hc
  ·cases hc
 ·--indexAddr
  rename_i ho
  obtain⟨x,hx,hc⟩:=bV hc
  obtain⟨i,hi,hc⟩:=bV hc
  split at hc
  ·rename_i hu
   obtain⟨sz,hs,hc⟩:=bV hc
   cases hc
   simp only[MOp.val,j7.val,←n6 hrel hx,←n6 hrel hi]at hv
   exact b4U ho hu hs hv
  ·rename_i hu
   obtain⟨sz,hs,hc⟩:=bV hc
   cases hc
   simp only[MOp.val,j7.val,←n6 hrel hx,←n6 hrel hi]at hv
   exact b4S ho hu hs hv
  ·cases hc
 ·--index
  rename_i ho
  obtain⟨x,hx,hc⟩:=bV hc
  obtain⟨i,hi,hc⟩:=bV hc
  split at hc
  ·rename_i hu
   cases hc
   simp only[MOp.val,j7.val,←n6 hrel hx,←n6 hrel hi]at hv
   exact b4V ho hu hv
  ·rename_i hu
   obtain⟨sz,hs,hc⟩:=bV hc
   obtain⟨g,hg,hc⟩:=bV hc
   cases hc
   simp only[MOp.val,j7.val,←n6 hrel hx,←n6 hrel hi]at hv
   exact b4T ho hu hs hg hv
  ·cases hc
 ·--extract
  rename_i ho
  obtain⟨x,hx,hc⟩:=bV hc
  cases hc
  simp only[MOp.val,j7.val,←n6 hrel hx]at hv
  exact b4O ho hv
 ·rename_i ho
  split at hc
  ·rename_i m' hm'
   cases hc
   exact a7d ho hrel hm' hm hv
  ·split at hc
   ·cases hc
    cases hm
   ·cases hc
 ·exact a2q hrel hc hm hv
end
section
variable{P:Program}{N:Nat}
theorem a0a{a:Act}{ρ:Env}(hrel:Rel N a ρ){ops:Array Oper}{o:Oper}{g:Option (Nat×Bool)}(hg:b0l N ops.toList o.guard=some g):
  Region.wanted o (yielded ops a.tmps)=P5 ρ g:=by
 unfold b0l at hg
 unfold Region.wanted
 split at hg
 ·rename_i h;cases hg;simp[h,P5]
 ·rename_i j want h
  split at hg
  ·rename_i o' ho'
   split at hg
   ·rename_i d hd
    split at hg
    ·rename_i hlt
     cases hg
     have h1:ops[j]? =some o':=by rw[←a5u];exact ho'
     have h2:a.tmps[d]? =some (ρ d):=by
      have:=hrel.get d
      rw[a2k]at this
      have hs:d<a.tmps.size:=by rw[hrel.size];exact hlt
      rw[Array.getElem?_eq_getElem hs]at this⊢
      exact congrArg some this
     simp only[h,yielded,h1,Option.bind_some,hd,h2,P5]
     cases ρ d<;>simp
    ·cases hg
   ·cases hg
  ·cases hg
def b1O(N:Nat)(ds:List Deferred)(w0:World)(Q:D6→Env→c9→Prop):Exit→Act→World→Prop
 | .normal,a,w=>a.defers=ds∧M4 w0 w∧∃ρ,Rel N a ρ∧Q .normal ρ w.heap
 | .exit id,a,w=>a.defers=ds∧M4 w0 w∧∃ρ,Rel N a ρ∧Q (.exit id) ρ w.heap
 | .ret,a,w=>a.defers=ds∧M4 w0 w∧∃ρ,Rel N a ρ∧Q .ret ρ w.heap
 |_,_,_=>False
theorem S6(a:Act)(d:Option Nat)(v:Value):(a.put d v).defers=a.defers:=by cases d<;>rfl
theorem a5C{ds:List Deferred}{w0:World}{Q:D6→Env→c9→Prop}{ops:Array Oper}:∀(l:List Oper) (ms:List j1) (a:Act) (ρ:Env) (w:World),
  Rel N a ρ→a.defers=ds→M4 w0 w→a1D P N ops.toList l=some ms→O2 P ms (fun ρ h=>Q .normal ρ h) ρ w.heap→wpList P ops (b1O N ds w0 Q) l a w
 | [],ms,a,ρ,w,hrel,hd,ha,hc,h=>by
  cases hc
  exact⟨hd,ha,ρ,hrel,h⟩
 |o::os,ms,a,ρ,w,hrel,hd,ha,hc,h=>by
  simp only[a1D]at hc
  split at hc
  case isFalse=>cases hc
  rename_i hdst
  obtain⟨m,hm,hc⟩:=bV hc
  obtain⟨g,hg,hc⟩:=bV hc
  obtain⟨mr,hr,hc⟩:=bV hc
  cases hc
  simp only[O2,M6]at h
  refine wpList_step fun K hK=> ?_
  rw[a0a hrel hg]
  split
  ·rename_i hw
   rw[if_pos hw]at h
   refine C4.wp (a4o hrel hm h) fun v w' ha' hk=>hK _ _ ?_
   exact a5C os mr _ _ w' (hrel.put _ hdst _) (by rw[S6];exact hd) (ha.trans ha') hr hk
  ·rename_i hw
   rw[if_neg hw]at h
   refine hK _ _ ?_
   exact a5C os mr _ _ w (hrel.put _ hdst _) (by rw[S6];exact hd) ha hr h
end
end Go.Proofs.YtjagmebglhbdkaaGreat.MX
