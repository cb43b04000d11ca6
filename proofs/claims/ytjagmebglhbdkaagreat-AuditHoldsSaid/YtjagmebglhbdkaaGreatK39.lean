import Derived.Test.YtjagmebglhbdkaaGreatK38
namespace Go.Proofs.YtjagmebglhbdkaaGreat.MX
open Go Go.Proofs
set_option linter.unusedSimpArgs false
set_option linter.unusedVariables false
section
set_option maxHeartbeats 16000000
def c5r(h0:c9)(L:V3)(C:Cfg)(u:Value)(l:List HP)(x:Except Int (Int×Wk))(v:Value)(h':c9):Prop:=match x with
 | .error e=>e≠0∧v= .tuple #[.int .i64 0,.int .i64 e]∧St h0 h' l
 | .ok y=>v= .tuple #[.int .i64 y.1,.int .i64 0]∧∃A c,St h0 h' (n9 {L with A:=A,c:=c} C u y.2::l)
def fIx{α:Type}(p:α→Bool)(K:List α)(k:Nat):Int:=match(K.drop k).findIdx? p with
 |none=> -1
 |some j=>(k+j:Nat)
theorem c2d{α:Type}(p:α→Bool)(K:List α):fIx p K K.length= -1:=by unfold fIx;rw[List.drop_length];rfl
theorem b8Q{α:Type}{p:α→Bool}{K:List α}{k:Nat}(hk:k<K.length):fIx p K k=if p K[k]=true then(k:Int)else fIx p K (k+1):=by
 unfold fIx
 rw[X8 hk,List.findIdx?_cons]
 by_cases hp:p K[k]=true
 ·rw[if_pos hp,if_pos hp];rfl
 ·rw[if_neg hp,if_neg hp]
  cases(K.drop (k+1)).findIdx? p with
  |none=>rfl
  |some j=>show((k+(j+1):Nat):Int)=((k+1+j:Nat):Int);omega
section
variable{h0 h:c9}{l:List HP}{L:V3}{C:Cfg}{w:Wk}{U:List Unt}{m n b i:Nat}{Au:Option Addr}{cu:Nat}
theorem b2s(x:j0)(hc:∀h',St h0 h' l→C.rd h')(hu:∀h',St h0 h' l→Arr Unt.enc 4 h' Au U)(hx:∀h',St h0 h' l→Arr i6 1 h' x.A x.c.us)(hxl:1≤x.c.us.length∧x.c.us.length≤200)(hD:Stc C U)(hf:0≤x.c.ord∧0≤x.c.rea∧0≤x.c.want∧∀u∈x.c.us,0≤u)
  (S:St h0 h (n9 L C (.slice Au U.length cu) w::l)) (W:w.wf U m) (hm:m<300000) (hst:∀r∈w.s.R,1≤r.state∧r.state≤9) (hnn:∀r∈w.s.R,1≤r.num):
  d8 Tryz.prog 96 [.pointer (some ⟨L.p,0,none⟩),.agg x.enc.toArray] h fun v h'=>c5r h0 L C (.slice Au U.length cu) l (E5 C.ps C.os C.ss U w x.c) v h':=by
 have hul:=hD.ul
 have hol:=hD.cfg.2.1
 have hss:=hD.cfg.len.2.1
 have hrl:=W.rl
 have hkl:=W.kl
 obtain⟨hf1,hf2,hf3,hf4⟩:=hf
 obtain⟨rq,hrq⟩:∃rq,rq=E5 C.ps C.os C.ss U w x.c:=⟨_,rfl⟩
 have hd:=hrq
 unfold E5 at hd
 have hwf:∀y,rq= .ok y→y.2.wf U (m+1):=fun y hy=>a1R hD.ul hxl (by rw[←hrq];exact hy) W
 rw[←hrq]
 clear hrq
 refine EN i96.eq_1 fun K hK=>Wa ?_
 (revert S;(try clear F);refine AL fun g h S F=> ?_)
 have S:St h0 h (n9 L C (.slice Au U.length cu) w::d9 g x.enc 44::l):=S.p1
 have F:∀off,rd1 h (.pointer (some ⟨g,off,none⟩))=x.enc[off]? :=fun off=>j3 S.p1.blk
 have FN:rdN h g 0 12=some x.enc:=v8 S.p1.blk (l_a rfl)
 have F2:=S.mrR
 have F3:=S.mrOs
 by_cases k1:100≤w.s.R.length
 ·rw[if_pos k1]at hd
  (try simp(disch:=first|omega|assumption|exact l_a rfl) only[go_sem,↓wBk,simprocAttr,F2,show(100:Int)≤w.s.R.length by omega])
  rw[hd]at hK
  exact hK _ _ ⟨by decide,rfl,S.tl.tl⟩
 rw[if_neg k1]at hd
 by_cases k3:(C.os.length:Int)≤x.c.ord
 ·rw[if_pos (.inr k3)]at hd
  (try simp(disch:=first|omega|assumption|exact l_a rfl) only[go_sem,↓wBk,simprocAttr,F2,show ¬(100:Int)≤w.s.R.length by omega])
  refine dE ?_
  refine We F F3 @j0.enc.eq_1 k3 ?_
  rw[hd]at hK
  exact hK _ _ ⟨by decide,rfl,S.tl.tl⟩
 rw[if_neg (fun h=>h.elim (by omega) k3)]at hd
 (try simp(disch:=first|omega|assumption|exact l_a rfl) only[go_sem,↓wBk,simprocAttr,F2,show ¬(100:Int)≤w.s.R.length by omega])
 refine dE ?_
 refine Wf F F3 @j0.enc.eq_1 k3 @FN ?_
 clear F F2 F3 FN
 refine cV (b6m x (fun h' S=>hc _ S.tl) (fun h' S=>hu _ S.tl) (fun h' S=>hx _ S.tl) (by omega) hD (by omega) hf4 hf2 S W hst hnn) ?_
 clear S
 intro h S
 by_cases k4:N6 C.ps C.os U w.s x.c=0
 case neg=>
  rw[if_pos k4]at hd
  refine Wb k4 ?_
  rw[hd]at hK
  exact hK _ _ ⟨k4,rfl,S.tl.tl⟩
 rw[if_neg (fun h=>h k4)]at hd
 have hask:∀i,i<x.c.us.length→E6 U x.c i:=by
  have h2:=k4
  unfold N6 at h2
  split at h2
  ·simp at h2
  ·rename_i hd
   exact s7 (by cases hd':dcd (∀i,i<x.c.us.length→E6 U x.c i)with|false=>exact absurd hd' hd|true=>rfl)
 have F:∀off,rd1 h (.pointer (some ⟨g,off,none⟩))=x.enc[off]? :=fun off=>j3 S.p1.blk
 refine Wd k4 F @j0.enc.eq_1 ?_
 have hwd:X1 C.ss w x.c.want=if x.c.want=0 then .ok (-1,w)else match u3 C.ss x.c.want with
  |none=> .error 14
  |some _=>match a2e w.s.K x.c.want with
   |none=> .error 14
   |some j=> .ok ((j:Int),{w with s:={w.s with K:=w.s.K.set j {w.s.K.getD j KU0 with place:=7} } }):=rfl
 refine cC (fun ρ' h'=>ρ' 0= .pointer (some ⟨L.p,0,none⟩)∧ρ' 3= .pointer (some ⟨g,0,none⟩)∧∃(j:Int) (w1:Wk),ρ' 7= .int .i64 j∧X1 C.ss w x.c.want= .ok (j,w1)∧St h0 h' (n9 L C (.slice Au U.length cu) w1::d9 g x.enc 44::l)) ?_ ?_ ?_
 ·intro hb J hJ
  have hw0:0<x.c.want:=s7 hb
  rw[if_neg (by omega)]at hwd
  have FC:=S.mrC
  refine Wa ?_
  refine dE ?_
  refine Wd F @FC @j0.enc.eq_1 ?_
  refine cI (a5e C x.c.want (hc _ S.tl.tl).ss (by omega)) ?_
  clear F FC
  rintro _ h ⟨rfl,f1⟩
  have S:=S.frame f1
  clear f1
  obtain⟨ok,hok⟩:∃ok,ok=(u3 C.ss x.c.want).isSome:=⟨_,rfl⟩
  rw[←hok]
  obtain⟨p,hp⟩:∃p:KU→Bool,p=fun u=>ok&&decide (u.place=3∧u.sku=x.c.want):=⟨_,rfl⟩
  have S0:=S
  obtain⟨k,t,o,sd,vs,hv,S⟩:=St.mo.1 S
  obtain⟨Ak,ck,rfl⟩:=(St.p1 S).sl
  have F2:=S.moF
  have F:∀off,rd1 h (.pointer (some ⟨g,off,none⟩))=x.enc[off]? :=fun off=>j3 S0.p1.blk
  refine Wc F2 @x6.eq_1 ?_
  refine LKp (Nat.zero_add 0) [0,3,9] (fun ρ h'=>∃i:Nat,ρ 10= .int .i64 ((i:Int)-1)∧i≤w.s.K.length∧ρ 7= .int .i64 (fIx p w.s.K i)∧h'=h) (fun ρ _=>(iv (ρ 10)+1).toNat) ?_ ?_
  ·refine Wa ?_
   exact⟨w.s.K.length,rfl,by omega,by rw[c2d]⟩
  rintro ρ h J' ⟨e0,e3,e9⟩ hJ' ⟨i,e10,hi,e7,rfl⟩
  rcases i with _|i
  ·refine Wb e10 ?_
   have h7:fIx p w.s.K 0=match w.s.K.findIdx? p with|none=> -1|some j=>(j:Int):=by
    unfold fIx
    rw[a4D]
    cases w.s.K.findIdx? p with
    |none=>rfl
    |some j=>show((0+j:Nat):Int)=j;omega
   rw[h7]at e7
   clear h7
   cases hpr:u3 C.ss x.c.want with
   |none=>
    rw[hpr]at hok hwd
    have:w.s.K.findIdx? p=none:=by rw[List.findIdx?_eq_none_iff,hp,hok];intro y _;rfl
    rw[this]at e7
    refine Wb e7 ?_
    rw[hwd]at hd
    rw[hd]at hK
    exact hK _ _ ⟨by decide,rfl,S0.tl.tl⟩
   |some pr=>
    rw[hpr]at hok hwd
    have hpp:p=fun u:KU=>decide (u.place=3∧u.sku=x.c.want):=by rw[hp,hok];rfl
    have hpk:w.s.K.findIdx? p=a2e w.s.K x.c.want:=by rw[hpp];rfl
    rw[hpk]at e7
    cases hpi:a2e w.s.K x.c.want with
    |none=>
     rw[hpi]at e7
     simp only[hpi]at hwd
     refine Wb e7 ?_
     rw[hwd]at hd
     rw[hd]at hK
     exact hK _ _ ⟨by decide,rfl,S0.tl.tl⟩
    |some j=>
     rw[hpi]at e7
     simp only[hpi]at hwd
     obtain⟨hjl,hj3,_⟩:=a9v hpi
     have hge:w.s.K.getD j KU0=w.s.K[j]:=by rw[l_s,l_r hjl];rfl
     refine Wc e7 e0 ?_
     refine cV (Q3 (j:Int) 7 S0 (by omega)) ?_
     clear S S0 F F2
     intro h S
     refine Wa ?_
     refine hJ _ _ ?_
     refine Wd e0 e3 e7 ?_
     refine⟨_,_,rfl,hwd,?_⟩
     rw[c3v hjl]at S
     rw[hge]at hj3⊢
     rw[if_pos (.inr (.inr (.inr (.inl ⟨hj3,rfl⟩))))]at S
     have:a5x w.s.K[j] 7={w.s.K[j]with place:=7}:=by
      unfold a5x
      rw[hj3]
      simp
     rw[this]at S
     exact S
  have hil:i<w.s.K.length:=by omega
  have hi1:((i+1:Nat):Int)-1=(i:Int):=by omega
  have hi0:(0:Int)≤(i:Int):=by omega
  rw[hi1]at e10
  have hst:=b8Q (p:=p) hil
  obtain⟨bk,rfl⟩:=(St.p1 S).ownAt (by omega)
  have q0:=u2 KU.enc_len (St.p1 S) (i:=i) (j:=0) hil (by omega)
  have q1:=u2 KU.enc_len (St.p1 S) (i:=i) (j:=1) hil (by omega)
  generalize w.s.K[i]=y at*
  simp only[KU.enc,l_o,l_p,H8]at q0 q1
  cases ok
  ·have hy:p y=false:=by rw[hp];rfl
   rw[hy,if_neg (by decide)]at hst
   refine Wb e10 ?_
   refine dE ?_
   refine Wc e9 e10 ?_
   refine hJ' _ _ ?_ ?_
   ·refine Wb e7 ?_
    exact⟨i,rfl,by omega,by rw[hst]⟩
   ·refine Wb e10 ?_
    omega
  by_cases d1:y.place=3
  ·by_cases d2:y.sku=x.c.want
   ·have hy:p y=true:=by rw[hp];simp[d1,d2]
    rw[hy,if_pos rfl]at hst
    refine Wb e10 ?_
    refine dE ?_
    refine Wi e0 e3 e9 e10 F2 @x6.eq_1 F (Pf @j0.enc.eq_1 q0 q1 d1 d2) ?_
    refine hJ' _ _ ?_ ?_
    ·refine Wa ?_
     exact⟨i,rfl,by omega,by rw[hst]⟩
    ·refine Wb e10 ?_
     omega
   ·have hy:p y=false:=by rw[hp];simp[d2]
    rw[hy,if_neg (by decide)]at hst
    refine Wb e10 ?_
    refine dE ?_
    refine Wi e0 e3 e9 e10 F2 @x6.eq_1 F (Pf @j0.enc.eq_1 q0 q1 d1 d2) ?_
    refine hJ' _ _ ?_ ?_
    ·refine Wb e7 ?_
     exact⟨i,rfl,by omega,by rw[hst]⟩
    ·refine Wb e10 ?_
     omega
  ·have hy:p y=false:=by rw[hp];simp[d1]
   rw[hy,if_neg (by decide)]at hst
   refine Wb e10 ?_
   refine dE ?_
   refine Wi e0 e3 e9 e10 F2 @x6.eq_1 F (Pe @j0.enc.eq_1 q0 q1 d1) ?_
   refine hJ' _ _ ?_ ?_
   ·refine Wb e7 ?_
    exact⟨i,rfl,by omega,by rw[hst]⟩
   ·refine Wb e10 ?_
    omega
 ·intro hb J hJ
  have hw0:x.c.want=0:=by have:=y7 hb;omega
  rw[if_pos hw0]at hwd
  refine Wa ?_
  refine hJ _ _ ?_
  refine Wa ?_
  exact⟨_,_,rfl,hwd,S⟩
 clear S F hwd
 rintro ρ h ⟨e0,e3,j,w1,e7,hwp,S⟩
 rw[hwp]at hd
 obtain⟨W1,hR1,hn1⟩:=a5K hwp W
 simp only at W1 hR1 hn1
 simp only[Except.map]at hd
 obtain⟨LO,hLO⟩:∃LO,LO=(n9 L C (.slice Au U.length cu) w1::d9 g x.enc 44::l):=⟨_,rfl⟩
 rw[←hLO]at S
 have r14:∀K t,j8 (fun h'=>St h0 h' LO) (fun h'=>rd1 h' (.pointer (some ⟨L.p,14,none⟩))) K t=K (.int .i64 w.s.now):=fun K t=>rI (fun h' S=>by rw[hLO]at S;rw[S.mrNow,hn1]) h S
 have r10:∀K t,j8 (fun h'=>St h0 h' LO) (fun h'=>rd1 h' (.pointer (some ⟨L.p,10,none⟩))) K t=K (.slice L.A w.s.R.length L.c):=fun K t=>rI (fun h' S=>by rw[hLO]at S;rw[S.mrR,hR1]) h S
 have rg:∀(off:Nat) (v:Value),x.enc[off]? =some v→∀K t,j8 (fun h'=>St h0 h' LO) (fun h'=>rd1 h' (.pointer (some ⟨g,off,none⟩))) K t=K v:=fun off v hv K t=>rI (fun h' S=>by rw[hLO]at S;rw[j3 S.tl.blk];exact hv) h S
 have r1:=rg 1 _ rfl
 have r3:=rg 3 _ rfl
 have r4:=rg 4 _ rfl
 have r5:=rg 5 _ rfl
 refine Wa ?_
 refine dI (fun h'=>St h0 h' LO) S ?_
 refine Wi e0 e3 e7 r14 r10 r1 r3 (Pc r4 r5) ?_
 clear r14 r10 r1 r3 r4 r5 rg
 refine tA S ?_
 clear S
 intro q h S
 refine⟨S.tl,?_⟩
 refine Wa ?_
 refine tS S rfl rfl (l_a rfl) ?_
 clear S
 intro h S
 rw[hLO]at S
 clear hLO
 have S:St h0 h (d9 q (i0.enc ⟨a1b C.ps U w.s.now (w.s.R.length+1) j x.c 0,none,0,none,0⟩) 70::n9 L C (.slice Au U.length cu) w1::d9 g x.enc 44::l):=by
  have e:(a1b C.ps U w.s.now (w.s.R.length+1) j x.c 0).cred=x.c.cred:=by simp[a1b]
  rw[i0.enc]
  simp only[e]
  exact S
 obtain⟨y,hy,S⟩:∃y:i0,y.r=a1b C.ps U w.s.now (w.s.R.length+1) j x.c 0∧St h0 h (d9 q y.enc 70::j2 y::n9 L C (.slice Au U.length cu) w1::d9 g x.enc 44::l):=
  ⟨⟨a1b C.ps U w.s.now (w.s.R.length+1) j x.c 0,none,0,none,0⟩,rfl,St.p1 (St.star.2 (St.nilS (St.nilS S)))⟩
 have F1:=m8 (off:=2) S.p3
 simp only[j0.enc,l_p,l_o]at F1
 refine Wc e3 F1 ?_
 clear F1
 refine LKp (Pc e0 e3) [0,3,11,110] (fun ρ h'=>∃i:Nat,ρ 111= .int .i64 i∧i≤x.c.us.length∧
  ∃y:i0,y.r=a1b C.ps U w.s.now (w.s.R.length+1) j x.c i∧St h0 h' (d9 q y.enc 70::j2 y::n9 L C (.slice Au U.length cu) w1::d9 g x.enc 44::l)) (fun ρ _=>x.c.us.length-(iv (ρ 111)).toNat) ?_ ?_
 ·refine Wa ?_
  exact⟨0,rfl,by omega,y,hy,S⟩
 clear S e0 e3 e7 hy y
 rintro ρ h J ⟨e0,e3,e11,e110⟩ hJ ⟨i,e111,hi,y,hy,S⟩
 refine Wc e110 e111 ?_
 refine cD (fun hlt=> ?_) (fun hlt=> ?_)
 ·have hil:i<x.c.us.length:=by omega
  have hx1:∀{h':c9},St h0 h' l→∃b1 o1,x.A=some ⟨b1,o1,none⟩∧rd1 h' (.pointer (some ⟨b1,o1+i,none⟩))=some (.int .i64 x.c.us[i]):=fun {h'} S=>by
   obtain⟨b1,o1,hA1,q1⟩:=(hx _ S).at hil
   have q1:=rP0 q1 (by omega)
   simp only[i6,l_o,m9]at q1
   exact⟨b1,o1,hA1,q1⟩
  obtain⟨b1,o1,hA1,-⟩:=hx1 S.tl.tl.tl.tl
  have hx1:∀{h':c9},St h0 h' l→rd1 h' (.pointer (some ⟨b1,o1+i,none⟩))=some (.int .i64 x.c.us[i]):=fun {h'} S=>by
   obtain⟨b2,o2,hA2,q1⟩:=hx1 S
   rw[hA1]at hA2
   cases hA2
   exact q1
  have hsucc:=a9A (ps:=C.ps) (U:=U) (now:=w.s.now) (num:=w.s.R.length+1) (j:=j) hil
  have hun:∃n:Nat,x.c.us[i]=n∧n<U.length:=by
   have:=(hask i hil)
   obtain⟨_,a,b,_⟩:=this
   rw[l7 hil]at a b
   exact⟨x.c.us[i].toNat,by omega,by omega⟩
  rw[←hy]at hsucc
  have hyl:y.r.us.length=i∧y.r.gs.length=i:=by
   rw[hy]
   simp only[a1b,l_z,x4]
   omega
  obtain⟨hy1,hy2⟩:=hyl
  generalize x.c.us[i]=u at*
  obtain⟨n,rfl,hnU⟩:=hun
  have r8:∀K t,j8 (fun h'=>St h0 h' (d9 q y.enc 70::j2 y::n9 L C (.slice Au U.length cu) w1::d9 g x.enc 44::l)) (fun h'=>rd1 h' (.pointer (some ⟨q,8,none⟩))) K t=K (.slice y.A y.r.us.length y.c):=fun K t=>rI (fun h' S=>by rw[j3 S.blk];rfl) h S
  have r2:∀K t,j8 (fun h'=>St h0 h' (d9 q y.enc 70::j2 y::n9 L C (.slice Au U.length cu) w1::d9 g x.enc 44::l)) (fun h'=>rd1 h' (.pointer (some ⟨g,2,none⟩))) K t=K (.slice (some ⟨b1,o1,none⟩) x.c.us.length x.n):=fun K t=>rI (fun h' S=>by rw[j3 S.p3.blk,←hA1];rfl) h S
  have ru:∀K t,j8 (fun h'=>St h0 h' (d9 q y.enc 70::j2 y::n9 L C (.slice Au U.length cu) w1::d9 g x.enc 44::l)) (fun h'=>rd1 h' (.pointer (some ⟨b1,o1+i,none⟩))) K t=K (.int .i64 n):=fun K t=>rI (fun h' S=>hx1 S.tl.tl.tl.tl) h S
  refine Wa ?_
  refine dI (fun h'=>St h0 h' (d9 q y.enc 70::j2 y::n9 L C (.slice Au U.length cu) w1::d9 g x.enc 44::l)) S ?_
  refine Wh e3 e11 e111 r8 r2 ru @m9 ?_
  clear r8 r2 ru
  refine tA S ?_
  clear S
  intro b3 h S
  refine⟨S.tl,?_⟩
  refine Wa ?_
  have S:=St.star.1 S.p2
  refine tA1 (bytes:=8) (x:=(n:Int)) (xs:=y.r.us) zEl (by omega) zEp rfl rfl S.p2 (by omega) (by omega) ?_
  clear S
  intro va h S
  obtain⟨A',c',rfl⟩:=S.sl
  refine Wb e11 ?_
  refine tS S.p2 rfl rfl (l_a rfl) ?_
  clear S
  intro h S
  rw[i0.enc]at S
  replace S:=S.nm
  have F9:=m8 (off:=9) S
  simp only[l_p,l_o]at F9
  refine Wc e11 F9 ?_
  clear F9
  refine tA S ?_
  clear S
  intro b7 h S
  refine Wa ?_
  refine tA1 (bytes:=8) (x:=(-1:Int)) (xs:=y.r.gs) zEl (by omega) zEp rfl rfl S.p3.p1 (by omega) (by omega) ?_
  clear S
  intro vb h S
  obtain⟨B',d',rfl⟩:=S.sl
  refine Wb e11 ?_
  refine tS S.p1 rfl rfl (l_a rfl) ?_
  clear S
  intro h S
  replace S:=S.nm
  obtain⟨z,hz,S⟩:∃z:i0,z.r={y.r with us:=y.r.us++ [(n:Int)],gs:=y.r.gs++ [-1]}∧St h0 h (n9 L C (.slice Au U.length cu) w1::d9 q z.enc 70::j2 z::d9 g x.enc 44::l):=by
   refine⟨⟨{y.r with us:=y.r.us++ [(n:Int)],gs:=y.r.gs++ [-1]},A',c',B',d'⟩,rfl,?_⟩
   have S:St h0 h (i4 i6 1 3 (.slice A' (y.r.us++ [(n:Int)]).length c') (y.r.us++ [(n:Int)])::i4 i6 1 3 (.slice B' (y.r.gs++ [(-1:Int)]).length d') (y.r.gs++ [-1])::_):=S.p2.p2.p1
   exact(St.star.2 S).p2.p2.p1
  have p5:=m8 (off:=5) S.p1
  simp only[i0.enc,l_o,l_p]at p5
  have hx1:=hx1 S.tl.tl.tl.tl
  have F2:rd1 h (.pointer (some ⟨g,2,none⟩))=some (.slice (some ⟨b1,o1,none⟩) x.c.us.length x.n):=by rw[j3 S.p3.blk,←hA1];rfl
  cases hcr:z.r.cred
  ·rw[hcr]at p5
   refine Wi e0 e3 e11 e111 p5 F2 hx1 @m9 ?_
   refine cI (a3X n hnU (fun h' S=>hc h' S.tl.tl.tl) (fun h' S=>hu h' S.tl.tl.tl) hD S) ?_
   clear S p5 F2 hx1
   rintro _ h ⟨rfl,S⟩
   refine Wc @Pol.enc.eq_1 e11 ?_
   refine tS S.p1 rfl rfl (l_a rfl) ?_
   clear S
   intro h S
   rw[i0.enc]at S
   replace S:=S.nm
   refine Wb e111 ?_
   refine hJ _ _ ?_ ?_
   ·refine Wa ?_
    refine⟨i+1,rfl,by omega,{z with r:={z.r with cred:=(C8 C.ps (j9 U n).cat).cre} },?_,S.p2.p1⟩
    rw[hsucc,hz]
    have:y.r.cred=false:=by rw[←hcr,hz]
    simp only[this,Bool.false_or]
   ·refine Wb e111 ?_
    omega
  ·rw[hcr]at p5
   refine Wc e11 p5 ?_
   refine tS S.p1 rfl rfl (l_a rfl) ?_
   clear S p5 F2 hx1
   intro h S
   rw[i0.enc]at S
   replace S:=S.nm
   refine Wb e111 ?_
   refine hJ _ _ ?_ ?_
   ·refine Wa ?_
    refine⟨i+1,rfl,by omega,{z with r:={z.r with cred:=true} },?_,S.p2.p1⟩
    rw[hsucc,hz]
    have:y.r.cred=true:=by rw[←hcr,hz]
    simp only[this,Bool.true_or]
   ·refine Wb e111 ?_
    omega
 obtain rfl:i=x.c.us.length:=by omega
 clear hJ e110 e111 hi hlt
 have hyr:y.r=⟨w.s.R.length+1,x.c.ord,x.c.rea,x.c.want,j,x.c.cred||x.c.us.any fun u=>(C8 C.ps (j9 U u).cat).cre,1,w.s.now,x.c.us,x.c.us.map fun _=> -1,0,0,0,0⟩:=by
  rw[hy,a1b,C9]
 clear hy
 rw[←hyr]at hd
 have hynum:y.r.num=w.s.R.length+1:=by rw[hyr]
 clear hyr
 obtain⟨w3,hw3⟩:∃w3,w3={w1 with s:={w1.s with R:=w.s.R++ [y.r],T:=setT w1.s.T (w.s.R.length+1) (w.s.now+14)} }:=⟨_,rfl⟩
 rw[←hw3]at hd
 have W3:w3.wf U (m+1):=b5y (hwf _ hd) (by rw[hw3];exact W1.key.1)
 have htl:=W1.tl
 have htg:=W1.tg
 have hR1l:w1.s.R.length=w.s.R.length:=by rw[hR1]
 have hnow:=W.now
 obtain⟨k,t,o,sd,vs,hv,S⟩:=St.mo.1 S.p2
 rw[hR1]at hv
 unfold moL at S
 rw[hR1l]at S
 have hvl:vs.length=w.s.R.length:=by rw[←hv,l_z]
 obtain⟨LO,hLO⟩:∃LO,LO=d9 L.p (x6 C (.slice Au U.length cu) k (.slice L.A w.s.R.length L.c) t o sd w1.s) 68::i4 KU.enc 4 76 k w1.s.K::i4 tmE 2 139 t w1.s.T::i4 Msg.enc 6 127 o w1.s.O::
  i4 i0.enc 14 70 (.slice L.A w.s.R.length L.c) vs::i4 Msg.enc 6 127 sd w1.sd::(vs.map j2++(d9 q y.enc 70::j2 y::d9 g x.enc 44::l)):=⟨_,rfl⟩
 have hmq:∀h',St h0 h' LO→blk h' q=some (y.enc,70,(0,0)):=fun h' S=>by
  rw[hLO]at S
  obtain⟨M,S⟩:=Z4 S (X:=d9 q y.enc 70) (by simp)
  exact S.blk
 have S1:St h0 h LO:=hLO▸S
 have r10:∀K t,j8 (fun h'=>St h0 h' LO) (fun h'=>rd1 h' (.pointer (some ⟨L.p,10,none⟩))) K t=K (.slice L.A w.s.R.length L.c):=fun K t=>rI (fun h' S=>by rw[hLO]at S;rw[j3 S.blk];rfl) h S1
 have rN:∀K t,j8 (fun h'=>St h0 h' LO) (fun h'=>i7 (rdN h' q 0 14) fun cs=>some (.agg cs.toArray)) K t=K (.agg y.enc.toArray):=fun K t=>rI (fun h' S=>by rw[v8 (hmq _ S) (by simp[i0.enc])];rfl) h S1
 refine Wa ?_
 refine dI (fun h'=>St h0 h' LO) S1 ?_
 have hy14:y.enc.length=14:=rfl
 refine Wf e0 e11 r10 rN hy14 ?_
 refine tA S1 ?_
 clear S S1 r10 rN hmq
 intro b h S
 refine⟨S.tl,?_⟩
 rw[hLO]at S
 refine Wa ?_
 refine tA1 (bytes:=144) (x:=y) (xs:=vs) i0.enc_len (by omega) i0.enc_plain rfl rfl S.p5.p1 (by omega) (by omega) ?_
 clear S
 intro va h S
 obtain⟨A,c,rfl⟩:=S.sl
 refine Wa ?_
 refine tS S.p1 rfl rfl (l_a rfl) ?_
 clear S
 intro h S
 have S:St h0 h (n9 {L with A:=A,c:=c} C (.slice Au U.length cu) {w1 with s:={w1.s with R:=w.s.R++ [y.r]} }::d9 q y.enc 70::d9 g x.enc 44::l):=by
  refine St.mo.2 ⟨k,t,o,sd,vs++ [y],by rw[L7,hv];rfl,?_⟩
  have e:(vs++ [y]).length=(w.s.R++ [y.r]).length:=by simp[hvl]
  have S:St h0 h (d9 L.p (x6 C (.slice Au U.length cu) k (.slice A (vs++ [y]).length c) t o sd w1.s) 68::_):=S
  have S:=S.perm (b2f _ _ _ _ _ _ _ _ _ (vs.map j2) l)
  rw[e]at S
  unfold moL
  rw[L7]
  exact S
 clear hLO
 obtain⟨L',hL',w2,hw2,S⟩:∃L':V3,(L'={L with A:=A,c:=c})∧∃w2:Wk,w2={w1 with s:={w1.s with R:=w.s.R++ [y.r]} }∧St h0 h (n9 L' C (.slice Au U.length cu) w2::d9 q y.enc 70::d9 g x.enc 44::l):=⟨_,rfl,_,rfl,S⟩
 have hp:L.p=L'.p:=by rw[hL']
 have hT2:w2.s.T=w1.s.T:=by rw[hw2]
 have hn2:w2.s.now=w.s.now:=by rw[hw2];exact hn1
 have hw32:w3=a2Q w2 (w.s.R.length+1) (w.s.now+14):=by rw[hw3,hw2];rfl
 rw[hp]at e0
 have F2:=S.mrNow
 rw[hn2]at F2
 have F:∀off,rd1 h (.pointer (some ⟨q,off,none⟩))=y.enc[off]? :=fun off=>j3 S.p1.blk
 refine Wa ?_
 refine dE ?_
 refine Wg e0 e11 F F2 @i0.enc.eq_1 hynum ?_
 refine cV (b5z ((w.s.R.length:Int)+1) (w.s.now+14) S (by rw[hT2];exact htg) (by rw[hT2];omega)) ?_
 clear S F F2
 intro h S
 rw[←hw32]at S
 have F:∀off,rd1 h (.pointer (some ⟨q,off,none⟩))=y.enc[off]? :=fun off=>j3 S.p1.blk
 refine Wf e0 e11 F @i0.enc.eq_1 hynum ?_
 refine cV (a6C 1 ((w.s.R.length:Int)+1) 0 S W3 (by omega)) ?_
 clear S F
 intro h S
 have F:∀off,rd1 h (.pointer (some ⟨q,off,none⟩))=y.enc[off]? :=fun off=>j3 S.p1.blk
 refine We e11 F @i0.enc.eq_1 hynum ?_
 rw[hd]at hK
 refine hK _ _ ⟨rfl,A,c,?_⟩
 rw[←hL']
 exact S.d1.d1
end
end
section
set_option maxHeartbeats 16000000
def b3R(ss:List Sup)(w:Wk)(key:Int)(yes:Bool):Except Int Wk:=match w.s.O.findIdx? fun m=>decide (m.key=key)with
 |none=> .error 16
 |some k=> .ok (T9 ss {w with s:={w.s with O:=w.s.O.take k++w.s.O.drop (k+1)} } (w.s.O.getD k Msg.zero) yes)
theorem b1r{w:Wk}{i:Nat}(h:(w.R i).state≠5):y8 w i=w:=if_neg fun e=>h e.1
theorem b8O{w:Wk}{i:Nat}(hi:i<w.s.R.length)(st:Int):((N4 w i st).R i).state=st∧(N4 w i st).s.R.length=w.s.R.length:=by
 have e:(N4 w i st).R i=(j5 (w.put i {w.R i with state:=st}) i).R i:=rfl
 refine⟨?_,?_⟩
 ·rw[e]
  rcases c3w (w.put i {w.R i with state:=st}) i with e|e<;>rw[e,E0 hi]
 ·show(j5 (w.put i {w.R i with state:=st}) i).s.R.length=_
  rw[D4,o7]
theorem b4M{U:List Unt}{m:Nat}{w:Wk}{i:Nat}(W:w.wf U m)(hi:i<w.s.R.length)(st:Int):(N4 w i st).wf U m:=
 ((W.putR (i:=i) (r:={w.R i with state:=st}) hi rfl rfl).release (i:=i) (by rw[o7];exact hi)).without _ _ List.filter_sublist
section
variable{h0 h:c9}{l:List HP}{L:V3}{C:Cfg}{u:Value}{w:Wk}{U:List Unt}{m n b i:Nat}
theorem Wk.wf.cutO(W:w.wf U m){O:List Msg}(hO:O.Sublist w.s.O):Wk.wf U m {w with s:={w.s with O:=O} }:=
 ⟨W.kl,W.rl,W.rr,W.tg,W.tn,Z0 hO.length_le W.ol,fun x hx=>W.ot x (hO.subset hx),W.key,W.sl,W.now⟩
theorem b7m(key:Int)(yes:Bool)(hc:∀h',St h0 h' l→C.rd h')(hD:Stc C U)(S:St h0 h (n9 L C u w::l))(W:w.wf U m)(hm:m<300000)(B:Bnd n w)(hn:n≤10)(hkd:w.s.O.Pairwise fun a b=>a.key≠b.key)
  (hmsg:∀x∈w.s.O,(1≤x.rma∧x.rma≤w.s.R.length)∧(1≤x.kind∧x.kind≤4)∧(x.kind=2→0≤x.value∧x.value≤2199023255552)) (hnum:∀i<w.s.R.length,(w.R i).num=i+1):
  d8 Tryz.prog 98 [.pointer (some ⟨L.p,0,none⟩),.int .i64 key,.bool yes] h fun v h'=>resM h0 L C u l (b3R C.ss w key yes) v h':=by
 have hul:=hD.ul
 have hss:=hD.cfg.len.2.1
 have hol:=W.ol
 have hln:=b3A (show n≤100000 by omega)
 have hln1:=a7z n
 obtain⟨k,t,o,sd,vs,hv,S⟩:=St.mo.1 S
 obtain⟨Ao,co,rfl⟩:=(St.p3 S).sl
 have F:=S.moF
 refine EN i98.eq_1 fun K hK=> ?_
 refine Wc F @x6.eq_1 ?_
 refine LKp (Nat.zero_add 0) [0,1,2,17] (fun ρ h'=>∃j:Nat,ρ 18= .int .i64 j∧j≤w.s.O.length∧((ρ 7= .int .i64 (-1)∧∀x∈w.s.O.take j,x.key≠key)∨∃(a:Nat) (ha:a<w.s.O.length),w.s.O[a].key=key∧ρ 7= .int .i64 a)∧h'=h) (fun ρ _=>w.s.O.length-(iv (ρ 18)).toNat) ?_ ?_
 ·refine Wa ?_
  exact⟨0,rfl,by omega,.inl (by simp)⟩
 rintro ρ h J ⟨e0,e1,e2,e17⟩ hJ ⟨j,e18,hj,hat,rfl⟩
 refine Wc e17 e18 ?_
 refine cD (fun hlt=> ?_) (fun hlt=> ?_)
 ·have hjl:j<w.s.O.length:=by omega
  obtain⟨bo,rfl⟩:=(St.p3 S).ownAt (by omega)
  have hp:=u2 enc_len (St.p3 S) (i:=j) (j:=0) hjl (by omega)
  simp only[Msg.enc,l_o,H8]at hp
  by_cases d:w.s.O[j].key=key
  ·refine Wh e0 e1 e18 F @x6.eq_1 hp d ?_
   refine hJ _ _ ?_ ?_
   ·refine Wa ?_
    exact⟨j+1,rfl,by omega,.inr ⟨j,hjl,d,rfl⟩⟩
   ·refine Wb e18 ?_
    omega
  ·refine Wh e0 e1 e18 F @x6.eq_1 hp d ?_
   refine hJ _ _ ?_ ?_
   ·refine Wa ?_
    refine⟨j+1,rfl,by omega,?_⟩
    rcases hat with⟨e7,hno⟩|⟨a,ha,hak,e7⟩
    ·refine .inl ⟨e7,fun x hx=> ?_⟩
     rw[l_t hjl]at hx
     rcases List.mem_append.1 hx with hx|hx
     ·exact hno x hx
     ·rw[U1]at hx;rw[hx];exact d
    ·exact .inr ⟨a,ha,hak,e7⟩
   ·refine Wb e18 ?_
    omega
 obtain rfl:j=w.s.O.length:=by omega
 clear hJ e17 e18 hj hlt
 have hdef:b3R C.ss w key yes=match w.s.O.findIdx? fun m=>decide (m.key=key)with
  |none=> .error 16
  |some k=> .ok (T9 C.ss {w with s:={w.s with O:=w.s.O.take k++w.s.O.drop (k+1)} } (w.s.O.getD k Msg.zero) yes):=rfl
 rcases hat with⟨e7,hno⟩|⟨a,ha,hak,e7⟩
 ·rw[C9]at hno
  have:w.s.O.findIdx? (fun m=>decide (m.key=key))=none:=by
   rw[List.findIdx?_eq_none_iff]
   intro x hx
   simp[hno x hx]
  rw[this]at hdef
  rw[hdef]at hK
  refine Wb e7 ?_
  exact hK _ _ ⟨by decide,rfl,(St.mo.2 ⟨k,t,_,sd,vs,hv,S⟩:St h0 h (n9 L C u w::l)).tl⟩
 rw[b9k hkd ha hak]at hdef
 simp only at hdef
 rw[hdef]at hK
 clear hdef
 have hgd:w.s.O.getD a Msg.zero=w.s.O[a]:=by rw[l_s,l_r ha];rfl
 rw[hgd]at hK
 obtain⟨hrma,hkind,hval⟩:=hmsg _ (l_v ha)
 obtain⟨bo,rfl⟩:=(St.p3 S).ownAt (by omega)
 have q6:rdN h bo (a*6) 6=some w.s.O[a].enc:=by
  obtain⟨b',o',e,q⟩:=((St.p3 S).arr enc_len).at ha
  cases e
  rwa[Nat.zero_add]at q
 have hsub:(w.s.O.take a++w.s.O.drop (a+1)).Sublist w.s.O:=by
  have h1:=G0 a w.s.O
  rw[X8 ha]at h1
  conv=>rhs;rw[←h1]
  exact List.Sublist.append_left (List.sublist_cons_self _ _) _
 obtain⟨x,hx⟩:∃x,x=w.s.O[a]:=⟨_,rfl⟩
 rw[←hx]at hK hrma hkind hval q6
 have hx6:x.enc.length=6:=rfl
 refine Wg e0 e7 F @x6.eq_1 q6 hx6 ?_
 refine tA S ?_
 clear S F q6
 intro q h S
 refine Wb hx6 ?_
 refine tS S rfl rfl (l_a rfl) ?_
 clear S
 intro h S
 have S:St h0 h (d9 q x.enc 127::moL L C u w k t (.slice (some ⟨bo,0,none⟩) w.s.O.length co) sd vs l):=S
 have S:St h0 h (moL L C u w k t (.slice (some ⟨bo,0,none⟩) w.s.O.length co) sd vs (d9 q x.enc 127::l)):=by
  refine S.perm ?_
  exact(List.perm_middle (l₁:=_::_::_::_::_::_::vs.map j2)).symm
 have hcap:=(St.p3 S).cap
 obtain⟨A',c',hcut,-⟩:=a7g (c:=co) ((St.p3 S).arr enc_len) rfl (show a+1≤w.s.O.length from ha) hcap.2.1
 have hcut:a1F (some ⟨bo,0,none⟩) 6 ((a:Int)+1) (w.s.O.length:Int) (co:Int) (co:Int)=some (.slice A' (w.s.O.drop (a+1)).length c'):=hcut
 have hdr:∀h',St h0 h' (moL L C u w k t (.slice (some ⟨bo,0,none⟩) w.s.O.length co) sd vs (d9 q x.enc 127::l))→Arr Msg.enc 6 h' A' (w.s.O.drop (a+1)):=fun h' S=>by
  obtain⟨A2,c2,hcut2,harr⟩:=a7g (c:=co) ((St.p3 S).arr enc_len) rfl (show a+1≤w.s.O.length from ha) hcap.2.1
  have hcut2:a1F (some ⟨bo,0,none⟩) 6 ((a:Int)+1) (w.s.O.length:Int) (co:Int) (co:Int)=some (.slice A2 (w.s.O.drop (a+1)).length c2):=hcut2
  rw[hcut]at hcut2
  cases hcut2
  exact harr
 have r12:∀K t',j8 (fun h'=>St h0 h' (moL L C u w k t (.slice (some ⟨bo,0,none⟩) w.s.O.length co) sd vs (d9 q x.enc 127::l))) (fun h'=>rd1 h' (.pointer (some ⟨L.p,12,none⟩))) K t'=K (.slice (some ⟨bo,0,none⟩) w.s.O.length co):=fun K t'=>rI (fun h' S=>S.moF 12) h S
 refine Wa ?_
 refine dI (fun h'=>St h0 h' (moL L C u w k t (.slice (some ⟨bo,0,none⟩) w.s.O.length co) sd vs (d9 q x.enc 127::l))) S ?_
 refine We e0 e7 r12 hcut ?_
 clear r12
 refine tA S ?_
 clear S
 intro g h S
 refine⟨S.tl,?_⟩
 have S:=S.cellOwn (enc:=Msg.enc) (sz:=6) (ys:=[]) enc_len rfl (by decide)
 refine Wa ?_
 refine tAp (bytes:=48) (xs:=[]) (ys:=w.s.O.take a) enc_len (by omega) enc_plain rfl S (by simp[W8];omega) (E9 enc_len (b4v ((St.p3 S.tl).arr enc_len) _) (by simp;omega)) (by simp;omega) (by simp;omega) ?_
 clear S
 intro v1 h S
 rw[l_k]at S
 refine⟨S.tl,?_⟩
 refine Wa ?_
 refine tAp (bytes:=48) (xs:=w.s.O.take a) (ys:=w.s.O.drop (a+1)) enc_len (by omega) enc_plain rfl S (by simp[W8]) (E9 enc_len (hdr _ S.tl) rfl) (by simp;omega) (by simp;omega) ?_
 clear S hdr hcut hcap
 intro v2 h S
 obtain⟨A5,c5,rfl⟩:=S.sl
 refine Wa ?_
 refine b4a hv S ?_
 clear S hv
 intro h S
 have W1:Wk.wf U m {w with s:={w.s with O:=w.s.O.take a++w.s.O.drop (a+1)} }:=W.cutO hsub
 have B1:Bnd n {w with s:={w.s with O:=w.s.O.take a++w.s.O.drop (a+1)} }:=⟨B.led,B.pd,B.cd,B.gv⟩
 have hrma1:x.rma≤({w with s:={w.s with O:=w.s.O.take a++w.s.O.drop (a+1)} }:Wk).s.R.length:=hrma.2
 have hnum1:∀i<({w with s:={w.s with O:=w.s.O.take a++w.s.O.drop (a+1)} }:Wk).s.R.length,(({w with s:={w.s with O:=w.s.O.take a++w.s.O.drop (a+1)} }:Wk).R i).num=i+1:=hnum
 obtain⟨w1,hw1⟩:∃w1:Wk,w1={w with s:={w.s with O:=w.s.O.take a++w.s.O.drop (a+1)} }:=⟨_,rfl⟩
 rw[←hw1]at S W1 B1 hrma1 hnum1 hK
 clear hw1 W B hmsg hnum hkd hsub hgd hx hol
 obtain⟨i,hi⟩:∃i:Nat,x.rma=(i:Int)+1:=⟨(x.rma-1).toNat,by omega⟩
 have hi1:i<w1.s.R.length:=by omega
 have hri:(x.rma-1).toNat=i:=by omega
 have hri':(i:Int)+1-1=(i:Int):=by omega
 have hnm:=hnum1 i hi1
 clear hnum1 hrma hrma1
 have hrl1:=W1.rl
 have hQ:T9 C.ss w1 x yes=if x.kind=1 then(if yes=true then w1.put i {w1.R i with state:=2}else N4 w1 i 8)
   else y8 (if x.kind=2 then(if yes=true then a4K w1 i x.value else G3 w1 i x.value)else if x.kind=3 then(if yes=true then a0v C.ss w1 i else O3 (j5 w1 i) i (prc C.ss (w1.R i)))else w1.mv x.value (I8 yes)) i:=by
  unfold T9
  rw[hri]
 rw[hQ]at hK
 clear hQ hri
 have hpr:=a5F hD (w1.R i)
 have hOw:0<w1.s.R.length:=by omega
 obtain⟨b,hA⟩:∃b,L.A=some ⟨b,0,none⟩:=by
  obtain⟨k,t,o,sd,vs,hv,S⟩:=St.mo.1 S
  exact(St.p4 S).ownAt (by rw[←l_z (f:=i0.r),hv];exact hOw)
 have FR:=S.mrR
 rw[hA]at FR
 have FC:=S.mrC
 have F:∀off,rd1 h (.pointer (some ⟨q,off,none⟩))=x.enc[off]? :=fun off=>j3 S.p1.blk
 have q3:rd1 h (.pointer (some ⟨b,i*14+3,none⟩))=some (.int .i64 (w1.R i).want):=S.mrRet hA hi1 (j:=3) (by omega) (by omega)
 refine Wa ?_
 refine dE ?_
 refine Wg e0 @FR F @Msg.enc.eq_1 hi hri' ?_
 refine dE ?_
 refine Wd e0 @FC q3 ?_
 refine cI (a5e C (w1.R i).want (hc _ S.tl.tl).ss (by omega)) ?_
 clear F FR FC q3
 rintro _ h ⟨rfl,f1⟩
 have S:=S.frame f1
 clear f1
 have e:(u3 C.ss (w1.R i).want).getD 0=prc C.ss (w1.R i):=rfl
 rw[e]
 clear e
 have hG:a0v C.ss w1 i=((w1.put i {w1.R i with given:=(w1.R i).given+prc C.ss (w1.R i)}).mv (w1.R i).res 8).led (K3 w1.s.led 1 4 (prc C.ss (w1.R i))):=rfl
 rw[hG]at hK
 clear hG
 generalize prc C.ss (w1.R i)=pr at*
 have F:∀off,rd1 h (.pointer (some ⟨q,off,none⟩))=x.enc[off]? :=fun off=>j3 S.p1.blk
 by_cases k1:x.kind=1
 ·rw[if_pos k1]at hK
  cases yes
  ·rw[if_neg (by decide)]at hK
   refine Wf e0 e2 F @Msg.enc.eq_1 k1 ?_
   refine cV (a4s 8 S W1 hul (by omega) hA hi1 hnm) ?_
   clear S F
   intro h S
   obtain⟨hs,hl⟩:=b8O hi1 8
   refine Wb e0 ?_
   refine cV (J9 S (b4M W1 hi1 8) (by omega) hA (by omega)) ?_
   clear S
   intro h S
   rw[b1r (by rw[hs];decide)]at S
   refine Wa ?_
   exact hK _ _ ⟨rfl,S.d1⟩
  ·rw[if_pos rfl]at hK
   refine Wf e0 e2 F @Msg.enc.eq_1 k1 ?_
   refine L8 (r':={w1.R i with state:=2}) S hA hi1 (j:=6) (by omega) rfl rfl rfl (fun x hx=>by rw[i0.enc,i0.enc,hx];rfl) ?_
   clear S F
   intro h S
   refine Wb e0 ?_
   refine cV (J9 S (W1.putR (r:={w1.R i with state:=2}) hi1 rfl rfl) (by omega) hA (by rw[o7];exact hi1)) ?_
   clear S
   intro h S
   rw[b1r (by rw[E0 hi1];show ¬(2:Int)=5;decide)]at S
   refine Wa ?_
   exact hK _ _ ⟨rfl,S.d1⟩
 rw[if_neg k1]at hK
 by_cases k2:x.kind=2
 ·rw[if_pos k2]at hK
  cases yes
  ·rw[if_neg (by decide)]at hK
   refine Wf e0 e2 F @Msg.enc.eq_1 k2 ?_
   refine cV (a7f x.value S B1 (by omega) (hval k2) hA hi1) ?_
   clear S F
   intro h S
   refine Wb e0 ?_
   refine cV (J9 S ((W1.putR (r:={w1.R i with credd:=(w1.R i).credd+x.value}) hi1 rfl rfl).led _) (by omega) hA (by show i<(w1.put i _).s.R.length;rw[o7];exact hi1)) ?_
   clear S
   intro h S
   refine Wa ?_
   exact hK _ _ ⟨rfl,S.d1⟩
  ·rw[if_pos rfl]at hK
   have hv:=hval k2
   have hp:=B1.pd i
   have q11:rd1 h (.pointer (some ⟨b,i*14+11,none⟩))=some (.int .i64 (w1.R i).paid):=S.mrRet hA hi1 (j:=11) (by omega) (by omega)
   refine Wf e0 e2 F @Msg.enc.eq_1 k2 ?_
   refine dE ?_
   refine Wd F @Msg.enc.eq_1 q11 ?_
   refine L8 (r':={w1.R i with paid:=(w1.R i).paid+x.value}) S hA hi1 (j:=11) (by omega) rfl rfl rfl (fun x hx=>by rw[i0.enc,i0.enc,hx];rfl) ?_
   clear S F q11
   intro h S
   have F:∀off,rd1 h (.pointer (some ⟨q,off,none⟩))=x.enc[off]? :=fun off=>j3 S.p1.blk
   have B2:Bnd (n+1) (w1.put i {w1.R i with paid:=(w1.R i).paid+x.value}):=(B1.up (Nat.le_succ n)).put ⟨by show-lim (n+1)≤(w1.R i).paid+x.value;omega,by show(w1.R i).paid+x.value≤lim (n+1);omega⟩ ((B1.up (Nat.le_succ n)).cd i) ((B1.up (Nat.le_succ n)).gv i)
   refine Wd e0 F @Msg.enc.eq_1 ?_
   refine cV (a4M 1 2 x.value (.inr (.inl ⟨rfl,rfl⟩)) S B2 (by omega) hv) ?_
   clear S F
   intro h S
   refine Wb e0 ?_
   refine cV (J9 S ((W1.putR (r:={w1.R i with paid:=(w1.R i).paid+x.value}) hi1 rfl rfl).led _) (by omega) hA (by show i<(w1.put i _).s.R.length;rw[o7];exact hi1)) ?_
   clear S
   intro h S
   refine Wa ?_
   exact hK _ _ ⟨rfl,S.d1⟩
 rw[if_neg k2]at hK
 by_cases k3:x.kind=3
 ·rw[if_pos k3]at hK
  cases yes
  ·rw[if_neg (by decide)]at hK
   refine Wf e0 e2 F @Msg.enc.eq_1 k3 ?_
   refine cV (a2O S W1 hul hA hi1) ?_
   clear S F
   intro h S
   have W2:(j5 w1 i).wf U m:=W1.release hi1
   have hi2:i<(j5 w1 i).s.R.length:=by rw[D4];exact hi1
   refine Wb e0 ?_
   refine cV (a6z pr S W2 (by omega) B1.rel (by omega) ⟨by omega,by omega⟩ hA hi2) ?_
   clear S
   intro h S
   have W3:=a6A (s:=pr) W2 hi2
   refine Wb e0 ?_
   refine cV (J9 S W3.1 (by omega) hA (by rw[W3.2];exact hi2)) ?_
   clear S
   intro h S
   refine Wa ?_
   exact hK _ _ ⟨rfl,S.d1⟩
  ·rw[if_pos rfl]at hK
   have hp:=B1.gv i
   have q13:rd1 h (.pointer (some ⟨b,i*14+13,none⟩))=some (.int .i64 (w1.R i).given):=S.mrRet hA hi1 (j:=13) (by omega) (by omega)
   refine Wg e0 e2 F @Msg.enc.eq_1 k3 q13 ?_
   refine L8 (r':={w1.R i with given:=(w1.R i).given+pr}) S hA hi1 (j:=13) (by omega) rfl rfl rfl (fun x hx=>by rw[i0.enc,i0.enc,hx];rfl) ?_
   clear S F q13
   intro h S
   have B2:Bnd (n+1) (w1.put i {w1.R i with given:=(w1.R i).given+pr}):=(B1.up (Nat.le_succ n)).put ((B1.up (Nat.le_succ n)).pd i) ((B1.up (Nat.le_succ n)).cd i) ⟨by show-lim (n+1)≤(w1.R i).given+pr;omega,by show(w1.R i).given+pr≤lim (n+1);omega⟩
   have W2:(w1.put i {w1.R i with given:=(w1.R i).given+pr}).wf U m:=W1.putR hi1 rfl rfl
   have hi2:i<(w1.put i {w1.R i with given:=(w1.R i).given+pr}).s.R.length:=by rw[o7];exact hi1
   have hkl:=W2.kl
   have hre:((w1.put i {w1.R i with given:=(w1.R i).given+pr}).R i).res=(w1.R i).res:=by rw[E0 hi1]
   have q4:rd1 h (.pointer (some ⟨b,i*14+4,none⟩))=some (.int .i64 (w1.R i).res):=by rw[←hre];exact S.mrRet hA hi2 (j:=4) (by omega) (by omega)
   refine Wc e0 q4 ?_
   refine cV (Q3 (w1.R i).res 8 S (by omega)) ?_
   clear S q4
   intro h S
   refine Wb e0 ?_
   refine cV (a4M 1 4 pr (.inr (.inr (.inr ⟨rfl,rfl⟩))) S (B2.mv _ _) (by omega) ⟨by omega,by omega⟩) ?_
   clear S
   intro h S
   refine Wb e0 ?_
   refine cV (J9 S ((W2.mv _ _).led _) (by omega) hA hi2) ?_
   clear S
   intro h S
   refine Wa ?_
   exact hK _ _ ⟨rfl,S.d1⟩
 rw[if_neg k3]at hK
 have hkl:=W1.kl
 cases yes
 ·have hb:I8 false=6:=rfl
  rw[hb]at hK
  refine Wh e0 e2 F @Msg.enc.eq_1 k1 k2 k3 ?_
  refine cV (Q3 x.value 6 S (by omega)) ?_
  clear S F
  intro h S
  refine Wb e0 ?_
  refine cV (J9 S (W1.mv _ _) (by omega) hA hi1) ?_
  clear S
  intro h S
  refine Wa ?_
  exact hK _ _ ⟨rfl,S.d1⟩
 ·have hb:I8 true=0:=rfl
  rw[hb]at hK
  refine Wh e0 e2 F @Msg.enc.eq_1 k1 k2 k3 ?_
  refine cV (Q3 x.value 0 S (by omega)) ?_
  clear S F
  intro h S
  refine Wb e0 ?_
  refine cV (J9 S (W1.mv _ _) (by omega) hA hi1) ?_
  clear S
  intro h S
  refine Wa ?_
  exact hK _ _ ⟨rfl,S.d1⟩
end
end
end Go.Proofs.YtjagmebglhbdkaaGreat.MX
