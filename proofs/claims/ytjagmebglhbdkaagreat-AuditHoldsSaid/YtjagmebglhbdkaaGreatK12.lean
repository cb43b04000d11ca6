import Derived.Test.YtjagmebglhbdkaaGreatK11
import Derived.Test.YtjagmebglhbdkaaGreatK09
import Derived.Test.YtjagmebglhbdkaaGreatK10
import Derived.Test.YtjagmebglhbdkaaGreatIR
namespace Go.Proofs.YtjagmebglhbdkaaGreat.MX
open Go Go.Proofs
set_option linter.unusedSimpArgs false
set_option linter.unusedVariables false
section
section
variable{α:Type}{F:α→HP}{h0 h:c9}{l:List HP}{X:HP}{zs:List α}{n:Nat}
theorem a7W(hn:n<zs.length)(S:St h0 h (X::(zs.map F++l))):St h0 h (F zs[n]::X::((zs.take n++zs.drop (n+1)).map F++l)):=by
 refine S.perm ?_
 have e:zs=zs.take n++zs[n]::zs.drop (n+1):=by rw[←X8 hn,G0]
 conv=>lhs;rw[e]
 rw[L7,L7,G7,l_q,l_q,l_j]
 exact(List.Perm.cons X List.perm_middle).trans (List.Perm.swap _ _ _)
theorem b0D{z:α}(hn:n<zs.length)(S:St h0 h (F z::X::((zs.take n++zs.drop (n+1)).map F++l))):St h0 h (X::((zs.set n z).map F++l)):=by
 refine S.perm ?_
 rw[List.set_eq_take_append_cons_drop,if_pos hn,L7,L7,G7,l_q,l_q,l_j]
 exact(List.Perm.swap _ _ _).trans (List.Perm.cons X List.perm_middle.symm)
theorem c0s{z:α}(hn:n<zs.length)(S:St h0 h (X::F z::(zs.map F++l))):St h0 h (X::((zs.set n z).map F++l)):=by
 have S1:St h0 h (X::(zs.map F++(F z::l))):=S.perm (List.Perm.cons X List.perm_middle.symm)
 have S2:=(a7W hn S1).tl
 have S3:St h0 h (F z::X::((zs.take n++zs.drop (n+1)).map F++l)):=S2.perm ((List.Perm.cons X List.perm_middle).trans (List.Perm.swap _ _ _))
 exact b0D hn S3
end
theorem c2Q{α:Type}{F:α→HP}{h0 h:c9}{l:List HP}(R:List HP){B:HP}{us:List α}{z:α}(S:St h0 h (F z::(R++(B::(us.map F++l))))):St h0 h (R++(B::((us++ [z]).map F++l))):=by
 refine S.perm ?_
 rw[L7,l_q]
 exact List.perm_middle.symm.trans (List.Perm.append_left R ((List.Perm.swap _ _ _).trans (List.Perm.cons B List.perm_middle.symm)))
theorem St.dropL{h0 h:c9}{l:List HP}:∀{ps:List HP},St h0 h (ps++l)→St h0 h l
 | [],S=>S
 |_::ps,S=>St.dropL (ps:=ps) S.tl
theorem St.cap{α:Type}{enc:α→List Value}{sz T:Nat}{h0 h:c9}{l:List HP}{A:Option Addr}{n c:Nat}{xs:List α}(S:St h0 h (i4 enc sz T (.slice A n c) xs::l)):n=xs.length∧n≤c∧c<9223372036854775808:=by
 rcases S.own with⟨hv,rfl⟩|⟨b,cap,cs,hv,_,hle,h63,_⟩
 ·injection hv with e1 e2 e3
  subst e1 e2 e3
  simp
 ·injection hv with e1 e2 e3
  subst e1 e2 e3
  exact⟨rfl,hle,h63⟩
section
variable{α:Type}{enc:α→List Value}{sz T:Nat}{h0 h:c9}{l:List HP}{xs:List α}
theorem St.ownAt{A:Option Addr}{n c:Nat}(S:St h0 h (i4 enc sz T (.slice A n c) xs::l))(hne:0<xs.length):∃b,A=some ⟨b,0,none⟩:=by
 rcases S.own with⟨_,rfl⟩|⟨b,cap,cs,hv,_⟩
 ·simp at hne
 ·injection hv with e1 e2 e3
  exact⟨b,e1⟩
theorem b2B(hsz:∀x,(enc x).length=sz){i j:Nat}{vs cs:List Value}{x:α}(hi:i<xs.length)(hj:j+vs.length≤sz)(hx:enc x=v5 (enc xs[i]) j vs):
  v5 (xs.flatMap enc++cs) (i*sz+j) vs=(xs.set i x).flatMap enc++cs:=by
 have hlt:((xs.take i).flatMap enc).length=i*sz:=by rw[fL hsz,x4,Nat.min_eq_left (by omega)]
 have h1:xs.flatMap enc=(xs.take i).flatMap enc++(enc xs[i]++(xs.drop (i+1)).flatMap enc):=by
  rw[R5 enc xs i,X8 hi,X9]
 have he:enc xs[i]=(enc xs[i]).take j++(enc xs[i]).drop j:=(G0 _ _).symm
 have hjl:((enc xs[i]).take j).length=j:=by rw[x4,hsz];omega
 have hdl:((enc xs[i]).drop j).length=sz-j:=by rw[M2,hsz]
 have hx2:enc x=(enc xs[i]).take j++vs++((enc xs[i]).drop j).drop vs.length:=by
  rw[hx]
  conv=>lhs;rw[he]
  exact v6 _ _ [] j hjl.symm vs (by omega)
 have e1:xs.flatMap enc++cs=((xs.take i).flatMap enc++(enc xs[i]).take j)++((enc xs[i]).drop j++((xs.drop (i+1)).flatMap enc++cs)):=by
  rw[h1]
  conv=>lhs;rw[he]
  simp only[l_q]
 rw[e1,v6 _ _ [] (i*sz+j) (by rw[l_m,hlt,hjl]) vs (by rw[l_m];omega),List.drop_append_of_le_length (by omega),List.set_eq_take_append_cons_drop,if_pos hi,a1p,X9,hx2]
 simp only[l_q]
theorem G8(hsz:∀x,(enc x).length=sz){b n c i j off m:Nat}{x:α}{vs:List Value}{K:Value→c9→Prop}{s:Tag h}{t:Tag K}(S:St h0 h (i4 enc sz T (.slice (some ⟨b,0,none⟩) n c) xs::l))
  (hi:i<xs.length) (hoff:off=i*sz+j) (hj:j+vs.length≤sz) (hm:vs.length=m) (hpl:pC vs=true) (hx:enc x=v5 (enc xs[i]) j vs)
  (hk:∀h',St h0 h' (i4 enc sz T (.slice (some ⟨b,0,none⟩) n c) (xs.set i x)::l)→K undef h'):P8 m (.pointer (some ⟨b,off,none⟩)) vs h K s t:=by
 have ho:=S.own
 rcases ho with⟨hv,_⟩|⟨b',cap,cs,hv,_,hle,h63,hblk,hln⟩
 ·cases hv
 injection hv with e1 e2 e3
 cases e1
 subst e2 e3
 have hfl:=fL hsz xs
 have hroom:i*sz+sz≤xs.length*sz:=by
  have:=a1n sz (show i+1≤xs.length from hi)
  rwa[Nat.succ_mul]at this
 rw[sT,hblk]
 simp only[b1j]
 refine⟨⟨hm,hpl,?_⟩,?_⟩
 ·rw[b5x (by rw[l_m,hfl];omega)]
  trivial
 ·rw[hoff,b2B hsz hi hj hx]
  have hb:=F5 hblk
  refine hk _ (S.ownUp ((Fr.refl _ _).set (.inl (by simp[i9])) _) ?_ (fun b hb=> .inl hb))
  refine .inr ⟨b,c,cs,by rw[T3],Nat.zero_le _,by rw[T3];exact hle,h63,L2 hb,?_⟩
  rw[l_m,fL hsz,T3,←hfl,←l_m]
  exact hln
theorem v7(hsz:∀x,(enc x).length=sz){b n c i off m:Nat}{x:α}{vs:List Value}{K:Value→c9→Prop}{s:Tag h}{t:Tag K}(S:St h0 h (i4 enc sz T (.slice (some ⟨b,0,none⟩) n c) xs::l))
  (hi:i<xs.length) (hoff:off=i*sz) (hvs:vs=enc x) (hm:sz=m) (hpl:pC vs=true)
  (hk:∀h',St h0 h' (i4 enc sz T (.slice (some ⟨b,0,none⟩) n c) (xs.set i x)::l)→K undef h'):P8 m (.pointer (some ⟨b,off,none⟩)) vs h K s t:=by
 subst hvs
 refine G8 hsz (j:=0) S hi hoff (by rw[hsz];omega) (by rw[hsz];exact hm) hpl ?_ hk
 have:=v6 [] (enc xs[i]) [] 0 rfl (enc x) (by rw[hsz,hsz];exact x9 _)
 rw[l_k,l_k,List.drop_of_length_le (by rw[hsz,hsz];exact x9 _),D9]at this
 exact this.symm
end
theorem pm0{x:HP}{t M:List HP}(h:(t).Perm M):(x::t).Perm (x::M):=(u6 [] x t).trans (List.Perm.cons x h)
theorem pm1{a x:HP}{t M:List HP}(h:(a::t).Perm M):(a::x::t).Perm (x::M):=(u6 [a] x t).trans (List.Perm.cons x h)
theorem pm2{a b x:HP}{t M:List HP}(h:(a::b::t).Perm M):(a::b::x::t).Perm (x::M):=(u6 [a,b] x t).trans (List.Perm.cons x h)
theorem pm3{a b c x:HP}{t M:List HP}(h:(a::b::c::t).Perm M):(a::b::c::x::t).Perm (x::M):=(u6 [a,b,c] x t).trans (List.Perm.cons x h)
theorem pm4{a b c d x:HP}{t M:List HP}(h:(a::b::c::d::t).Perm M):(a::b::c::d::x::t).Perm (x::M):=(u6 [a,b,c,d] x t).trans (List.Perm.cons x h)
theorem pm5{a b c d e x:HP}{t M:List HP}(h:(a::b::c::d::e::t).Perm M):(a::b::c::d::e::x::t).Perm (x::M):=(u6 [a,b,c,d,e] x t).trans (List.Perm.cons x h)
theorem pm6{a b c d e f x:HP}{t M:List HP}(h:(a::b::c::d::e::f::t).Perm M):(a::b::c::d::e::f::x::t).Perm (x::M):=(u6 [a,b,c,d,e,f] x t).trans (List.Perm.cons x h)
theorem pm7{a b c d e f g x:HP}{t M:List HP}(h:(a::b::c::d::e::f::g::t).Perm M):(a::b::c::d::e::f::g::x::t).Perm (x::M):=(u6 [a,b,c,d,e,f,g] x t).trans (List.Perm.cons x h)
theorem pm8{a b c d e f g i x:HP}{t M:List HP}(h:(a::b::c::d::e::f::g::i::t).Perm M):(a::b::c::d::e::f::g::i::x::t).Perm (x::M):=(u6 [a,b,c,d,e,f,g,i] x t).trans (List.Perm.cons x h)
theorem pm9{a b c d e f g i j x:HP}{t M:List HP}(h:(a::b::c::d::e::f::g::i::j::t).Perm M):(a::b::c::d::e::f::g::i::j::x::t).Perm (x::M):=(u6 [a,b,c,d,e,f,g,i,j] x t).trans (List.Perm.cons x h)
theorem pm10{a b c d e f g i j k x:HP}{t M:List HP}(h:(a::b::c::d::e::f::g::i::j::k::t).Perm M):(a::b::c::d::e::f::g::i::j::k::x::t).Perm (x::M):=(u6 [a,b,c,d,e,f,g,i,j,k] x t).trans (List.Perm.cons x h)
theorem pm11{a b c d e f g i j k m x:HP}{t M:List HP}(h:(a::b::c::d::e::f::g::i::j::k::m::t).Perm M):(a::b::c::d::e::f::g::i::j::k::m::x::t).Perm (x::M):=(u6 [a,b,c,d,e,f,g,i,j,k,m] x t).trans (List.Perm.cons x h)
theorem pm12{a b c d e f g i j k m n x:HP}{t M:List HP}(h:(a::b::c::d::e::f::g::i::j::k::m::n::t).Perm M):(a::b::c::d::e::f::g::i::j::k::m::n::x::t).Perm (x::M):=(u6 [a,b,c,d,e,f,g,i,j,k,m,n] x t).trans (List.Perm.cons x h)
theorem St.cellOwn{α:Type}{enc:α→List Value}{sz:Nat}(hsz:∀x,(enc x).length=sz){h0 h:c9}{l:List HP}{b T:Nat}{ys:List α}{cs:List Value}(S:St h0 h (d9 b cs T::l))(hc:cs=ys.flatMap enc)(hl:ys.length<9223372036854775808):St h0 h (i4 enc sz T (.slice (some ⟨b,0,none⟩) ys.length ys.length) ys::l):=by
 obtain⟨B,⟨hB,hb⟩,_,hup⟩:=S.hd
 subst hB
 refine hup _ _ [b] (Fr.refl _ _) ⟨rfl,.inr ⟨b,ys.length,[],rfl,Nat.zero_le _,x9 _,hl,?_,?_⟩⟩ (fun b' hm=> .inl hm)
 ·rw[D9,hb,hc]
 ·rw[D9,fL hsz]
theorem dI{P:Program}{Q:D6→Env→c9→Prop}{ρ:Env}{h:c9}{l:List j1}{s:Sch}{t1:Tag l}{t2:Tag s}{t3:Tag Q}{t4:Tag ρ}{t5:Tag h}(I:c9→Prop)(hI:I h)(hw:T4 P I l (Q .normal) s ρ h):a8V P l s Q ρ h t1 t2 t3 t4 t5:=⟨I,hI,hw⟩
theorem c2M{F:c9→Option Value}{v:Value}{K:Value→Prop}{t:Tag K}(h:c9)(hF:F h=some v):j8 (fun h'=>F h'=some v) F K t=K v:=by
 apply propext
 constructor
 ·rintro⟨u,h1,h2⟩
  have:=h1 h hF
  rw[hF]at this
  cases this
  exact h2
 ·exact fun hk=>⟨v,fun _ e=>e,hk⟩
theorem rI{I:c9→Prop}{F:c9→Option Value}{v:Value}{K:Value→Prop}{t:Tag K}(hI:∀h',I h'→F h'=some v)(h:c9)(hh:I h):j8 I F K t=K v:=by
 apply propext
 constructor
 ·rintro⟨u,h1,h2⟩
  have:=h1 h hh
  rw[hI h hh]at this
  cases this
  exact h2
 ·exact fun hk=>⟨v,hI,hk⟩
theorem cC{P:Program}{b:Bool}{x y:j6}{T:Env→c9→Prop}{Q:D6→Env→c9→Prop}{ρ:Env}{h:c9}{s:Tag (mwp P x (V0 T Q) ρ h)}{t:Tag (mwp P y (V0 T Q) ρ h)}(I:Env→c9→Prop)
  (hX:b=true→∀J:Env→c9→Prop,(∀ρ h,I ρ h→J ρ h)→mwp P x (V0 J Q) ρ h) (hY:b=false→∀J:Env→c9→Prop,(∀ρ h,I ρ h→J ρ h)→mwp P y (V0 J Q) ρ h) (hT:∀ρ h,I ρ h→T ρ h):
  X6 (.bool b) (mwp P x (V0 T Q) ρ h) (mwp P y (V0 T Q) ρ h) s t:=by
 cases b
 ·simp only[X6,a0r,Bool.false_eq_true,if_false];exact hY rfl T hT
 ·simp only[X6,a0r,if_true];exact hX rfl T hT
theorem b0F{P:Program}{a b:j6}{Q:D6→Env→c9→Prop}{ρ:Env}{h:c9}(I:Env→c9→Prop)(hw:∀J:Env→c9→Prop,(∀ρ h,I ρ h→J ρ h)→mwp P a (V0 J Q) ρ h)(hT:∀ρ h,I ρ h→mwp P b Q ρ h):mwp P (.seq a b) Q ρ h:=hw _ hT
theorem cS{P:Program}{Q:D6→Env→c9→Prop}{ρ:Env}{h0 h:c9}{L:List HP}{l:List j1}{s:Sch}{t1:Tag l}{t2:Tag s}{t3:Tag Q}{t4:Tag ρ}{t5:Tag h}(S:St h0 h L)(I:Env→c9→Prop)
  (hw:∀J:Env→c9→Prop,(∀ρ h,I ρ h→J ρ h)→T4 P (fun h'=>St h0 h' L) l J s ρ h) (hT:∀ρ h,I ρ h→Q .normal ρ h):a8V P l s Q ρ h t1 t2 t3 t4 t5:=⟨_,S,hw _ hT⟩
theorem PM{h0 h:c9}{l M:List HP}(S:St h0 h l)(e:l.Perm M:=by(repeat (with_reducible first|exact List.Perm.refl _|refine pm0 ?_|refine pm1 ?_|refine pm2 ?_|refine pm3 ?_|refine pm4 ?_|refine pm5 ?_|refine pm6 ?_|refine pm7 ?_|refine pm8 ?_|refine pm9 ?_|refine pm10 ?_|refine pm11 ?_|refine pm12 ?_))):St h0 h M:=S.perm e
end
def I64(n:Int):Prop:= -9223372036854775808≤n∧n<9223372036854775808
def b2Z(x:UInt8):List Value:=[.int .u8 (x.toNat:Int)]
theorem a6Y(x:UInt8):(b2Z x).length=1:=rfl
theorem a6Z(x:UInt8):pC (b2Z x)=true:=rfl
theorem c0M(x:UInt8):(x.toNat:Int)<256:=by have:=x.toNat_lt;omega
def B8(n:Int):UInt8:=UInt8.ofNat (n%256).toNat
theorem b0S(n:Int):((B8 n).toNat:Int)=n%256:=by
 have h1:0≤n%256:=Int.emod_nonneg _ (by decide)
 have h2:n%256<256:=Int.emod_lt_of_pos _ (by decide)
 simp only[B8,UInt8.toNat_ofNat']
 omega
theorem b0Q(n:Int):IntKind.u8.wrap n=n%256:=by
 simp only[IntKind.wrap,IntKind.signed,IntKind.bits]
 simp
theorem c1f(n:Int):IntKind.u8.wrap n=((B8 n).toNat:Int):=by rw[b0Q,b0S]
def le:Nat→Int→List UInt8
 |0,_=> []
 |n+1,v=>B8 v::le n (v/256)
theorem a3g:∀(n:Nat) (v:Int),(le n v).length=n
 |0,_=>rfl
 |n+1,v=>by simp[le,a3g n]
theorem le_succ:∀(n:Nat) (v:Int),le (n+1) v=le n v++ [B8 (v/256^n)]
 |0,v=>by simp[le]
 |n+1,v=>by
  rw[show le (n+1+1) v=B8 v::le (n+1) (v/256)from rfl,le_succ n (v/256)]
  simp only[le,l_j]
  rw[Int.pow_succ,Int.mul_comm,Int.ediv_ediv_of_nonneg (by decide)]
def num:List UInt8→Int
 | []=>0
 |x::l=>x.toNat+256*num l
theorem a7D:∀l,0≤num l
 | []=>Int.le_refl _
 |x::l=>by have:=a7D l;simp only[num];omega
theorem b9M:∀l,num l<256^l.length
 | []=>by decide
 |x::l=>by
  have h1:=b9M l
  have h2:=c0M x
  simp only[num,l_f,Int.pow_succ]
  omega
theorem c3z(x:UInt8)(m:Int):B8 (x.toNat+256*m)=x:=by
 apply UInt8.toNat_inj.1
 have h1:=b0S (x.toNat+256*m)
 have h2:=c0M x
 omega
theorem b9m:∀l:List UInt8,le l.length (num l)=l
 | []=>rfl
 |x::l=>by
  have h2:=c0M x
  simp only[l_f,le,num,c3z]
  rw[show(x.toNat+256*num l)/256=num l by omega,b9m l]
theorem b5B(k:Nat)(v:Int):v.fdiv (2^(8*k))=v/256^k:=by
 rw[Int.pow_mul,Int.fdiv_eq_ediv_of_nonneg _ (Int.le_of_lt (Int.pow_pos (by decide)))]
 rfl
theorem shr8(v:Int):v.fdiv (2^min 8 64)=v/256:=by
 have:=b5B 1 v
 simpa using this
theorem a8t(k:Nat)(v:Int):v/256^k=0↔0≤v∧v<256^k:=by
 have hp:(0:Int)<256^k:=Int.pow_pos (by decide)
 constructor
 ·intro h
  have h1:=Int.emod_add_mul_ediv v (256^k)
  rw[h,Int.mul_zero,Int.add_zero]at h1
  rw[←h1]
  exact⟨Int.emod_nonneg _ (Int.ne_of_gt hp),Int.emod_lt_of_pos _ hp⟩
 ·rintro⟨h1,h2⟩
  exact Int.ediv_eq_zero_of_lt h1 h2
section
set_option maxHeartbeats 4000000
def D8(o:Nat)(n:Int)(L:List Msg):HP:=exA fun s=>a2S (d9 o [.int .i64 n,s] 172) (i4 Msg.enc 6 128 s L)
section
variable{h0 h:c9}{l:List HP}{o:Nat}{n:Int}{L:List Msg}
theorem St.obx:St h0 h (D8 o n L::l)↔∃s,St h0 h (d9 o [.int .i64 n,s] 172::i4 Msg.enc 6 128 s L::l):=by
 rw[D8,St.ex]
 exact exists_congr fun s=>St.star
theorem St.isOb(S:St h0 h (D8 o n L::l)):∃s,a0G h0.size h o s n L∧∀h' s' n' L',a0G h0.size h' o s' n' L'→Fr h h' (o::i9 s)→(∀b∈i9 s',b∈i9 s∨h.size≤b)→St h0 h' (D8 o n' L'::l):=by
 rw[D8,St.ex]at S
 obtain⟨s,S⟩:=S
 obtain⟨B,hp,hb,hk⟩:=S.hd
 obtain⟨C,D,rfl,⟨rfl,hc⟩,⟨rfl,hd⟩,hdis⟩:=hp
 refine⟨s,⟨hc,hb o (by simp),hd.rebase (fun b hm=>hb b (by simp[hm])),hdis o (by simp)⟩,fun h' s' n' L' i hf hs=> ?_⟩
 refine hk h' (D8 o n' L') (o::i9 s') hf ⟨s',[o],i9 s',rfl,⟨rfl,i.blk⟩,⟨rfl,i.own.rebase fun _ _=>Nat.zero_le _⟩,by simpa using i.apart⟩ ?_
 intro b hm
 rcases List.mem_cons.1 hm with rfl|hm
 ·exact .inl (by simp)
 ·rcases hs b hm with h1|h1
  ·exact .inl (by simp[h1])
  ·exact .inr h1
theorem c1r(S:St h0 h l):d8 Tryz.prog 41 [] h fun v h'=>∃o,v= .pointer (some ⟨o,0,none⟩)∧St h0 h' (D8 o 1 []::l):=
 (c1t h).mono fun v h' ⟨o,e,hge,_,hb,hf⟩=>⟨o,e,St.obx.2 ⟨_,(S.new (q:=d9 o [.int .i64 1,.slice none 0 0] 172) hf (C:=[o]) ⟨rfl,hb⟩ (by simpa using hge)).nilS.p1⟩⟩
theorem c1v(k r v d:Int)(S:St h0 h (D8 o n L::l))(hn:0≤n∧n<9223372036854775807)(hd: -9223372036854775808≤d∧d<9223372036854775807)(hl:L.length<1000000):
  d8 Tryz.prog 197 [.pointer (some ⟨o,0,none⟩),.int .i64 k,.int .i64 r,.int .i64 v,.int .i64 d] h fun u h'=>u= .agg (Msg.mk n k r v 1 (d+1)).enc.toArray∧St h0 h' (D8 o (n+1) (L++ [⟨n,k,r,v,1,d+1⟩])::l):=by
 obtain⟨s,i,hk⟩:=S.isOb
 exact(c3F k r v d i hn hd hl).mono fun u h' ⟨e,s',i',hf,hb⟩=>⟨e,hk _ _ _ _ i' hf hb⟩
theorem b5Y(key:Int)(S:St h0 h (D8 o n L::l))(hl:L.length<1000000):
  d8 Tryz.prog 154 [.pointer (some ⟨o,0,none⟩),.int .i64 key] h fun v h'=>
   (K5 (fun m:Msg=>decide (m.key=key)) L 0= -1∧v= .tuple #[.agg Msg.zero.enc.toArray,.bool false]∧St h0 h' (D8 o n L::l))∨
    ∃i:Nat,∃hil:i<L.length,K5 (fun m:Msg=>decide (m.key=key)) L 0=i∧v= .tuple #[.agg L[i].enc.toArray,.bool true]∧St h0 h' (D8 o n (L.take i++L.drop (i+1))::l):=by
 obtain⟨s,i,hk⟩:=S.isOb
 refine(b7M key i hl).mono fun u h' ⟨hh,hf⟩=> ?_
 rcases hh with⟨h1,rfl,i'⟩|⟨j,hj,h1,rfl,s',i',hb⟩
 ·exact .inl ⟨h1,rfl,hk _ _ _ _ i' hf fun b hb=> .inl hb⟩
 ·exact .inr ⟨j,hj,h1,rfl,hk _ _ _ _ i' hf fun b hm=> .inl (hb b hm)⟩
theorem b7L(rma kind:Int)(S:St h0 h (D8 o n L::l))(hl:L.length<1000000):
  d8 Tryz.prog 143 [.pointer (some ⟨o,0,none⟩),.int .i64 rma,.int .i64 kind] h fun v h'=>St h0 h' (D8 o n (L.filter fun m=> !decide (m.rma=rma∧m.kind=kind))::l):=by
 obtain⟨s,i,hk⟩:=S.isOb
 exact(c1l rma kind i hl).mono fun u h' ⟨_,⟨s',i',hb⟩,hf⟩=>hk _ _ _ _ i' hf fun b hm=> .inl (hb b hm)
theorem a8J(rma:Int)(S:St h0 h (D8 o n L::l))(hl:L.length<1000000):
  d8 Tryz.prog 77 [.pointer (some ⟨o,0,none⟩),.int .i64 rma] h fun v h'=>v= .int .i64 (l8 rma L)∧Fr h h' []:=by
 obtain⟨s,i,hk⟩:=S.isOb
 exact b7Y rma i hl
theorem c1j(S:St h0 h (D8 o n L::l))(hl:L.length<1000000):
  d8 Tryz.prog 60 [.pointer (some ⟨o,0,none⟩)] h fun v h'=>St h0 h' (i4 Msg.enc 6 128 v L::D8 o n L::l):=by
 obtain⟨s,i,hk⟩:=S.isOb
 exact(c1s i hl).mono fun v h' ⟨ho,hf⟩=>S.ownNew hf ho
theorem a5O(S:St h0 h (D8 o n L::l))(hl:L.length<1000000):
  d8 Tryz.prog 56 [.pointer (some ⟨o,0,none⟩)] h fun v h'=>∃p,v= .pointer (some ⟨p,0,none⟩)∧St h0 h' (D8 p n L::D8 o n L::l):=by
 obtain⟨s,S⟩:=St.obx.1 S
 obtain⟨A,c,rfl⟩:=S.p1.sl
 have hg0:=m8 (off:=0) S
 have hg1:=m8 (off:=1) S
 simp only[l_p,l_o]at hg0 hg1
 have hI:(fun h'=>rd1 h' (.pointer (some ⟨o,0,none⟩))=some (.int .i64 n)∧rd1 h' (.pointer (some ⟨o,1,none⟩))=some (.slice A L.length c)) h:=⟨hg0,hg1⟩
 have rx:∀K t,j8 (fun h'=>rd1 h' (.pointer (some ⟨o,0,none⟩))=some (.int .i64 n)∧rd1 h' (.pointer (some ⟨o,1,none⟩))=some (.slice A L.length c)) (fun h'=>rd1 h' (.pointer (some ⟨o,0,none⟩))) K t=K (.int .i64 n):=fun K t=>rI (fun h' hh=>hh.1) h hI
 have ry:∀K t,j8 (fun h'=>rd1 h' (.pointer (some ⟨o,0,none⟩))=some (.int .i64 n)∧rd1 h' (.pointer (some ⟨o,1,none⟩))=some (.slice A L.length c)) (fun h'=>rd1 h' (.pointer (some ⟨o,1,none⟩))) K t=K (.slice A L.length c):=fun K t=>rI (fun h' hh=>hh.2) h hI
 refine EN i56.eq_1 fun K hK=>Wa ?_
 refine dI (fun h'=>rd1 h' (.pointer (some ⟨o,0,none⟩))=some (.int .i64 n)∧rd1 h' (.pointer (some ⟨o,1,none⟩))=some (.slice A L.length c)) hI ?_
 refine Wc rx ry ?_
 refine cI (a5N (S.p1.arr enc_len) rfl S.p1.own.nilA (by omega)) ?_
 rintro v h' ⟨ho,hf,_⟩
 have S:=S.ownNew hf ho
 clear rx ry hI hg0 hg1
 obtain⟨B,d,rfl⟩:=S.sl
 refine⟨⟨m8 (off:=0) S.p1,m8 (off:=1) S.p1⟩,?_⟩
 refine Wa ?_
 (revert S;(try clear F);refine AL fun p h S F=> ?_)
 refine Wa ?_
 exact hK _ _ ⟨p,rfl,St.obx.2 ⟨_,(St.obx.2 ⟨_,S.p2.p3.p1⟩).p1.p2.p1⟩⟩
end
end
theorem a8l{α:Type}{enc:α→List Value}(z:List Value)(x:α)(hz:enc x=z):∀n,n8 z n=(List.replicate n x).flatMap enc
 |0=>rfl
 |n+1=>by rw[List.replicate_succ,X9,hz,←a8l z x hz n];rfl
theorem a0V{α:Type}{enc:α→List Value}{sz T bytes:Nat}{z:List Value}{h0 h:c9}{l:List HP}{K:Value→c9→Prop}{s:Tag h}{t:Tag K}{n:Nat}(x:α)(hsz:∀x,(enc x).length=sz)(hz:enc x=z)(S:St h0 h l)(hn:n<9223372036854775808)(hb:n*bytes≤281474976710656)
  (hk:∀v h',St h0 h' (i4 enc sz T v (List.replicate n x)::l)→K v h'):mkT T bytes z (.int .i64 n) (.int .i64 n) h K s t:=by
 refine⟨⟨by omega,Int.le_refl _,by omega,by rw[←Int.natCast_mul];exact Int.ofNat_le.2 hb⟩,?_⟩
 rw[K0,a8l z x hz]
 refine hk _ _ (S.ownNew ((Fr.refl _ _).push _) (.inr ⟨h.size,n,[],by rw[G4],x9 _,by rw[G4];exact x9 _,hn,?_,?_⟩))
 ·rw[D9]
  exact C7 rfl
 ·rw[D9,fL hsz,G4]
def a3w(o:Nat)(bs:List UInt8)(bad:Bool):HP:=exA fun s=>a1U [d9 o [s,.bool bad] 221,i4 b2Z 1 5 s bs]
theorem H4{h0 h:c9}{l:List HP}{o:Nat}{bs:List UInt8}{bad:Bool}:St h0 h (a3w o bs bad::l)↔∃s,St h0 h (d9 o [s,.bool bad] 221::i4 b2Z 1 5 s bs::l):=
 St.ex.trans (exists_congr fun _=>St.stars)
theorem b6X(v:Int)(n:Nat){h0 h:c9}{l:List HP}{o:Nat}{bs:List UInt8}{bad:Bool}(S:St h0 h (a3w o bs bad::l))(hv:0≤v∧v<18446744073709551616)(hn:n≤8)(hl:bs.length<1000000):
  d8 Tryz.prog 221 [.pointer (some ⟨o,0,none⟩),.int .u64 v,.int .i64 n] h fun r h'=>St h0 h' (a3w o (bs++le n v) bad::l):=by
 refine EN i221.eq_1 fun K hK=>Wa ?_
 refine lI (fun ρ h'=>ρ 0= .pointer (some ⟨o,0,none⟩)∧ρ 6= .int .i64 n∧∃i:Nat,ρ 7= .int .i64 i∧i≤n∧ρ 1= .int .u64 (v/256^i)∧St h0 h' (a3w o (bs++le i v) bad::l)) (fun ρ _=>n-(iv (ρ 7)).toNat) ?_ ?_
 ·refine Wa ?_
  refine⟨0,rfl,Nat.zero_le _,?_,?_⟩
  ·simp
  ·simpa[le]using S
 ·clear S
  rintro ρ h J hJ ⟨e0,e6,i,e7,hi,e1,S⟩
  obtain⟨s,S⟩:=H4.1 S
  obtain⟨A,c,rfl⟩:=S.p1.sl
  ((try clear F);have F:=S.fx)
  refine Wc e7 e6 ?_
  refine cD (fun hg=> ?_) (fun hg=> ?_)
  ·have hp:(0:Int)<256^i:=Int.pow_pos (by decide)
   have h1:0≤v/256^i:=Int.ediv_nonneg hv.1 (Int.le_of_lt hp)
   have h2:v/256^i≤v:=Int.ediv_le_self _ hv.1
   refine Wf e0 e1 e7 F @c1f ?_
   (revert S;(try clear F);refine AL fun b h S F=> ?_)
   refine We e0 e1 e7 F ?_
   refine tA1 (bytes:=1) (x:=B8 (v/256^i)) a6Y (by omega) a6Z rfl rfl (S.p2.p1) (by simp[a3g];omega) (by simp[a3g];omega) ?_
   clear S F
   intro v' h S
   obtain⟨A',c',rfl⟩:=S.sl
   ((try clear F);have F:=S.fx)
   refine We e0 e1 e7 F ?_
   (revert S;(try clear F);refine ST fun h S F=> ?_)
   have e:v/256^i/256=v/256^(i+1):=by rw[Int.pow_succ,Int.ediv_ediv_of_nonneg (Int.le_of_lt hp)]
   refine We e0 e1 e7 F ?_
   refine hJ _ _ ?_ ?_
   ·refine Wd e0 e6 e7 ?_
    refine⟨i+1,rfl,by omega,?_,?_⟩
    ·rw[←e,←shr8]
    ·have S:=H4.2 ⟨_,S⟩
     rwa[l_q,←le_succ]at S
   ·refine Wb e7 ?_
    omega
  ·refine Wa ?_
   obtain rfl:i=n:=by omega
   exact hK _ _ (H4.2 ⟨_,S⟩)
def a0z(n:Nat)(v:Int)(bad:Bool):Bool:=bad||decide (¬(0≤v∧v<256^n))
def a3A(n:Nat)(v:Int)(bs:List UInt8)(bad:Bool):List UInt8:=if a0z n v bad then bs else bs++le n v
theorem a8b(v:Int)(n:Nat){h0 h:c9}{l:List HP}{o:Nat}{bs:List UInt8}{bad:Bool}(S:St h0 h (a3w o bs bad::l))(hv:I64 v)(hn:1≤n∧n≤4)(hl:bs.length<1000000):
  d8 Tryz.prog 189 [.pointer (some ⟨o,0,none⟩),.int .i64 v,.int .i64 n] h fun r h'=>St h0 h' (a3w o (a3A n v bs bad) (a0z n v bad)::l):=by
 obtain⟨hv1,hv2⟩:=hv
 have hw:IntKind.i64.wrap (8*n)=8*n:=u5 (by omega) (by omega)
 have hs:v.fdiv (2^(min (8*(n:Int)).toNat 64))=v/256^n:=by
  rw[←b5B,show min (8*(n:Int)).toNat 64=8*n by omega]
 have h256:(256:Int)^n≤256^4:=by
  obtain rfl|rfl|rfl|rfl:n=1∨n=2∨n=3∨n=4:=by omega
  all_goals decide
 have hz:=a8t n v
 refine EN i189.eq_1 fun K hK=>Wa ?_
 obtain⟨s,S⟩:=H4.1 S
 ((try clear F);have F:=S.fx)
 by_cases hr:0≤v∧v<256^n
 ·have hq:=hz.2 hr
  have hu:IntKind.u64.wrap v=v:=b2Q hr.1 (by omega)
  have hpb:a0z n v bad=bad:=by simp[a0z,hr]
  refine Wf hw hs hq F hu ?_
  cases bad
  ·refine Wc F hu ?_
   refine cI (b6X v n (H4.2 ⟨_,S⟩) (by omega) (by omega) hl) ?_
   intro r h' S
   refine Wa ?_
   refine hK _ _ ?_
   rw[a3A,hpb]
   exact S
  ·refine Wb F ?_
   refine hK _ _ ?_
   rw[a3A,hpb]
   exact H4.2 ⟨_,S⟩
 ·have hq:¬v/256^n=0:=fun h=>hr (hz.1 h)
  have hpb:a0z n v bad=true:=by simp[a0z,hr]
  by_cases h0':v<0
  ·refine Wf hw hs hq F h0' ?_
   (revert S;(try clear F);refine ST fun h S F=> ?_)
   refine Wb F ?_
   refine hK _ _ ?_
   rw[a3A,hpb]
   exact H4.2 ⟨_,S⟩
  ·refine Wf hw hs hq F h0' ?_
   (revert S;(try clear F);refine ST fun h S F=> ?_)
   refine Wb F ?_
   refine hK _ _ ?_
   rw[a3A,hpb]
   exact H4.2 ⟨_,S⟩
theorem c4R(v:Int){h0 h:c9}{l:List HP}{o:Nat}{bs:List UInt8}{bad:Bool}(S:St h0 h (a3w o bs bad::l))(hv:I64 v)(hl:bs.length<1000000):
  d8 Tryz.prog 129 [.pointer (some ⟨o,0,none⟩),.int .i64 v] h fun r h'=>St h0 h' (a3w o (a3A 1 v bs bad) (a0z 1 v bad)::l):=by
 refine EN i129.eq_1 fun K hK=>Wa ?_
 refine cI (a8b v 1 S hv (by omega) hl) fun r h' S=> ?_
 refine Wa ?_
 exact hK _ _ S
theorem c3H(v:Int){h0 h:c9}{l:List HP}{o:Nat}{bs:List UInt8}{bad:Bool}(S:St h0 h (a3w o bs bad::l))(hv:I64 v)(hl:bs.length<1000000):
  d8 Tryz.prog 130 [.pointer (some ⟨o,0,none⟩),.int .i64 v] h fun r h'=>St h0 h' (a3w o (a3A 2 v bs bad) (a0z 2 v bad)::l):=by
 refine EN i130.eq_1 fun K hK=>Wa ?_
 refine cI (a8b v 2 S hv (by omega) hl) fun r h' S=> ?_
 refine Wa ?_
 exact hK _ _ S
theorem c3I(v:Int){h0 h:c9}{l:List HP}{o:Nat}{bs:List UInt8}{bad:Bool}(S:St h0 h (a3w o bs bad::l))(hv:I64 v)(hl:bs.length<1000000):
  d8 Tryz.prog 132 [.pointer (some ⟨o,0,none⟩),.int .i64 v] h fun r h'=>St h0 h' (a3w o (a3A 4 v bs bad) (a0z 4 v bad)::l):=by
 refine EN i132.eq_1 fun K hK=>Wa ?_
 refine cI (a8b v 4 S hv (by omega) hl) fun r h' S=> ?_
 refine Wa ?_
 exact hK _ _ S
theorem b5N{A:Option Addr}{n c:Nat}{xs:List UInt8}{h0 h:c9}{l:List HP}(S:St h0 h l)(ha:Arr b2Z 1 h A xs)(hn:n=xs.length)(hA:A=none→xs=[])(hl:xs.length<1000000000):
  d8 Tryz.prog 190 [.slice A n c] h fun v h'=>St h0 h' (i4 b2Z 1 5 v xs::l)∧Fr h h' []:=
 (Q0 (T:=5) (sz:=1) (bytes:=1) i190.2 a6Y (by omega) a6Z rfl ha hn hA (by omega) (by omega)).mono fun v h' ⟨ho,hf,_⟩=>⟨S.ownNew hf ho,hf⟩
theorem c2G{enc:UInt8→List Value}{sz T base:Nat}{h:c9}{A:Option Addr}{n c:Nat}{xs:List UInt8}(ho:Own enc sz T base h (.slice A n c) xs):A=none→xs=[]:=by
 rintro rfl
 rcases ho with⟨hv,rfl⟩|⟨b,cap,cs,hv,_⟩
 ·rfl
 ·cases hv
theorem c3A{h0 h:c9}{l:List HP}{o:Nat}{bs:List UInt8}{bad:Bool}(S:St h0 h (a3w o bs bad::l))(hl:bs.length<1000000):
  d8 Tryz.prog 133 [.pointer (some ⟨o,0,none⟩)] h fun r h'=>∃v,r= .tuple #[v,.int .i64 (if bad then 2 else 0)]∧St h0 h' (i4 b2Z 1 5 v (if bad then []else bs)::a3w o bs bad::l):=by
 refine EN i133.eq_1 fun K hK=>Wa ?_
 obtain⟨s,S⟩:=H4.1 S
 obtain⟨B,d,rfl⟩:=S.p1.sl
 ((try clear F);have F:=S.fx)
 refine Wb F ?_
 cases bad
 ·refine Wb F ?_
  refine cI (b5N S (S.p1.arr a6Y) rfl (c2G S.p1.own) (by omega)) ?_
  rintro v h ⟨S,_⟩
  refine Wa ?_
  refine hK _ _ ⟨v,rfl,?_⟩
  exact(H4.2 ⟨_,S.p2.p2⟩).swap
 ·refine Wb F ?_
  exact hK _ _ ⟨_,rfl,(H4.2 ⟨_,S⟩).nilS⟩
structure Pol where
 w:Int
 fin:Bool
 exc:Bool
 cre:Bool
 f0:Int
 f1:Int
 f2:Int
 f3:Int
 s0:Int
 t0:Int
 s1:Int
 t1:Int
 s2:Int
 t2:Int
 s3:Int
 t3:Int
 deriving DecidableEq,Inhabited
def Pol.enc(p:Pol):List Value:=[.int .i64 p.w,.bool p.fin,.bool p.exc,.bool p.cre,.int .i64 p.f0,.int .i64 p.f1,.int .i64 p.f2,.int .i64 p.f3,.int .i64 p.s0,.int .i64 p.t0,.int .i64 p.s1,.int .i64 p.t1,.int .i64 p.s2,.int .i64 p.t2,.int .i64 p.s3,.int .i64 p.t3]
def Pol.zero:Pol:=⟨0,false,false,false,0,0,0,0,0,0,0,0,0,0,0,0⟩
theorem Pol.enc_len(p:Pol):p.enc.length=16:=rfl
theorem Pol.enc_plain(p:Pol):pC p.enc=true:=rfl
def U2(n:Int):Prop:=0≤n∧n≤10000
def Z9(s t:Int):Prop:=U2 s∧(t=0∧s=0∨3≤t∧t≤5)
def Pol.right(p:Pol):Prop:=(U2 p.f0∧U2 p.f1∧U2 p.f2∧U2 p.f3)∧(Z9 p.s0 p.t0∧Z9 p.s1 p.t1∧Z9 p.s2 p.t2∧Z9 p.s3 p.t3)∧0≤p.w∧p.w≤1000
theorem a8Q{p:Prop}{X Y:Prop}{s:Tag X}{t:Tag Y}(hx:¬p→X)(hy:p→Y):X6 (.bool (!dcd p)) X Y s t:=by
 by_cases h:p
 ·rw[dT h];simp only[X6,a0r,Bool.not_true,Bool.false_eq_true,if_false];exact hy h
 ·rw[dF h];simp only[X6,a0r,Bool.not_false,if_true];exact hx h
theorem a9y(n:Int)(h:c9):d8 Tryz.prog 216 [.int .i64 n] h fun v h'=>v= .bool (dcd (U2 n))∧h'=h:=by
 by_cases hp:U2 n
 ·refine EN i216.eq_1 fun K hK=>Wa ?_
  have:=hp.1
  have:=hp.2
  refine Wa ?_
  exact hK _ _ ⟨by rw[dT hp],rfl⟩
 ·by_cases h0:0≤n
  ·have:¬n≤10000:=fun h1=>hp ⟨h0,h1⟩
   refine EN i216.eq_1 fun K hK=> ?_
   refine Wa ?_
   exact hK _ _ ⟨by rw[dF hp],rfl⟩
  ·refine EN i216.eq_1 fun K hK=> ?_
   refine Wb h0 ?_
   exact hK _ _ ⟨by rw[dF hp],rfl⟩
theorem a4S(n:Int)(h:c9):d8 Tryz.prog 114 [.int .i64 n] h fun v h'=>v= .bool (dcd (U2 n))∧h'=h:=by
 by_cases hp:U2 n
 ·refine EN i114.eq_1 fun K hK=>Wa ?_
  have:=hp.1
  have:=hp.2
  refine Wa ?_
  exact hK _ _ ⟨by rw[dT hp],rfl⟩
 ·by_cases h0:0≤n
  ·have:¬n≤10000:=fun h1=>hp ⟨h0,h1⟩
   refine EN i114.eq_1 fun K hK=> ?_
   refine Wa ?_
   exact hK _ _ ⟨by rw[dF hp],rfl⟩
  ·refine EN i114.eq_1 fun K hK=> ?_
   refine Wb h0 ?_
   exact hK _ _ ⟨by rw[dF hp],rfl⟩
theorem b8Y(s t:Int)(h:c9):d8 Tryz.prog 217 [.agg (List.toArray [.int .i64 s,.int .i64 t])] h fun v h'=>v= .bool (dcd (Z9 s t))∧Fr h h' []:=by
 have S:=St.nil h
 refine EN i217.eq_1 fun K hK=>Wa ?_
 (revert S;(try clear F);refine AL fun b h S F=> ?_)
 refine Wb F ?_
 refine cI (a9y s _) ?_
 rintro _ _ ⟨rfl,rfl⟩
 by_cases hs:U2 s
 ·by_cases h1:t=0
  ·by_cases h2:s=0
   ·refine Wb F ?_
    exact hK _ _ ⟨by rw[dT];exact⟨hs,.inl ⟨h1,h2⟩⟩,S.fr⟩
   ·refine Wb F ?_
    exact hK _ _ ⟨by rw[dF];rintro⟨_,h|h⟩<;>omega,S.fr⟩
  ·by_cases h3:3≤t
   ·by_cases h5:t≤5
    ·refine Wb F ?_
     exact hK _ _ ⟨by rw[dT ⟨hs,.inr ⟨h3,h5⟩⟩],S.fr⟩
    ·refine Wb F ?_
     exact hK _ _ ⟨by rw[dF];rintro⟨_,h|h⟩<;>omega,S.fr⟩
   ·refine Wb F ?_
    exact hK _ _ ⟨by rw[dF];rintro⟨_,h|h⟩<;>omega,S.fr⟩
 ·refine Wb F ?_
  exact hK _ _ ⟨by rw[dF];exact fun h=>hs h.1,S.fr⟩
set_option maxHeartbeats 4000000 in
theorem c0r(p:Pol)(h:c9):d8 Tryz.prog 178 [.agg p.enc.toArray] h fun v h'=>v= .bool (dcd p.right)∧Fr h h' []:=by
 have S:=St.nil h
 refine EN i178.eq_1 fun K hK=>Wa ?_
 (revert S;(try clear F);refine AL fun b h S F=> ?_)
 refine Wc F @Pol.enc.eq_1 ?_
 refine B7 5 ?_
 refine Wa ?_
 iterate 4
  refine cI (a9y _ _) ?_
  rintro _ _ ⟨rfl,rfl⟩
  refine Wa ?_
  refine a8Q (fun hn=>by(refine Wa ?_);exact hK _ _ ⟨by rw[dF];exact fun h=>hn (by first|exact h.1.1|exact h.1.2.1|exact h.1.2.2.1|exact h.1.2.2.2),S.fr⟩) (fun hp=> ?_)
  refine Wa ?_
 refine Wc F @Pol.enc.eq_1 ?_
 refine B7 5 ?_
 refine Wa ?_
 iterate 4
  (revert S;(try clear F);refine AL fun g h S F=> ?_)
  refine Wb F ?_
  (revert S;(try clear F);refine ST fun h S F=> ?_)
  refine Wb F ?_
  refine cI (b8Y _ _ _) ?_
  rintro _ h ⟨rfl,hf⟩
  have S:=S.frame hf
  ((try clear F);have F:=S.fx)
  refine Wa ?_
  refine a8Q (fun hn=>by(refine Wa ?_);exact hK _ _ ⟨by rw[dF];exact fun h=>hn (by first|exact h.2.1.1|exact h.2.1.2.1|exact h.2.1.2.2.1|exact h.2.1.2.2.2),S.fr⟩) (fun hp=> ?_)
  refine Wa ?_
 refine Wc F @Pol.enc.eq_1 ?_
 by_cases h0:0≤p.w
 ·by_cases h1:p.w≤1000
  ·refine We F @Pol.enc.eq_1 h0 h1 ?_
   refine hK _ _ ⟨?_,S.fr⟩
   rw[dT]
   exact⟨⟨by assumption,by assumption,by assumption,by assumption⟩,⟨by assumption,by assumption,by assumption,by assumption⟩,h0,h1⟩
  ·refine We F @Pol.enc.eq_1 h0 h1 ?_
   exact hK _ _ ⟨by rw[dF];exact fun h=>h1 h.2.2.2,S.fr⟩
 ·refine Wd F @Pol.enc.eq_1 h0 ?_
  exact hK _ _ ⟨by rw[dF];exact fun h=>h0 h.2.2.1,S.fr⟩
theorem c0q{h:c9}:a6k Tryz.prog Pol.enc h [] (.func (.func 177) #[] (List.toArray [])) fun p=> !dcd p.right:=by
 refine⟨_,_,rfl,a5B,fun x h hf=> ?_⟩
 have S:=St.nil h
 refine EN i177.eq_1 fun K hK=>Wa ?_
 (revert S;(try clear F);refine AL fun b h S F=> ?_)
 refine Wc F @Pol.enc.eq_1 ?_
 refine cI (c0r x _) ?_
 rintro _ h ⟨rfl,hf⟩
 refine Wa ?_
 exact hK _ _ ⟨rfl,(S.frame hf).fr⟩
def a2p(l:List Pol):Prop:=l.length≤16∧∀p∈l,p.right
theorem a9P{h:c9}{A:Option Addr}{n c:Nat}{xs:List Pol}(ha:Arr Pol.enc 16 h A xs)(hn:n=xs.length)(hl:xs.length<1000000):
  d8 Tryz.prog 176 [.slice A n c,.func (.func 177) #[] (List.toArray [])] h fun v h'=>v= .bool (dcd (∃p∈xs,¬p.right))∧Fr h h' []:=by
 subst hn
 refine EN i176.eq_1 fun K hK=>Wa ?_
 refine cI (U0 (sz:=16) (p:=fun m:Pol=> !dcd m.right) i215.2 ha rfl (by omega) c0q) ?_
 rintro _ h1 ⟨rfl,hf⟩
 rcases R6 (fun m:Pol=> !dcd m.right) xs 0 with⟨hx,hall⟩|⟨i,hx,hil,hbef,hat⟩
 ·have hx:K5 (fun m:Pol=> !dcd m.right) xs 0= -1:=hx
  refine Wb hx ?_
  refine hK _ _ ⟨?_,hf⟩
  rw[dF]
  rintro⟨p,hp,hn⟩
  have:=hall p hp
  rw[dF hn]at this
  cases this
 ·have hx:K5 (fun m:Pol=> !dcd m.right) xs 0=(i:Int):=by simpa using hx
  refine Wb hx ?_
  refine hK _ _ ⟨?_,hf⟩
  have:=hat xs[i] (l_r hil)
  rw[dT]
  refine⟨xs[i],l_v hil,fun hr=> ?_⟩
  rw[dT hr]at this
  cases this
theorem b0Z{h:c9}{A:Option Addr}{n c:Nat}{xs:List Pol}(ha:Arr Pol.enc 16 h A xs)(hn:n=xs.length)(hl:xs.length<1000000):
  d8 Tryz.prog 121 [.slice A n c] h fun v h'=>v= .bool (dcd (a2p xs))∧Fr h h' []:=by
 subst hn
 refine EN i121.eq_1 fun K hK=>Wa ?_
 by_cases h16:xs.length≤16
 ·refine Wb h16 ?_
  refine cI (a9P ha rfl hl) ?_
  rintro _ h1 ⟨rfl,hf⟩
  refine Wa ?_
  refine hK _ _ ⟨?_,hf⟩
  by_cases hr:a2p xs
  ·rw[dT hr,dF]
   ·rfl
   ·rintro⟨p,hp,hn⟩;exact hn (hr.2 p hp)
  ·rw[dF hr,dT]
   ·rfl
   ·apply Classical.byContradiction
    intro hn
    exact hr ⟨h16,fun p hp=>Classical.byContradiction fun h=>hn ⟨p,hp,h⟩⟩
 ·refine Wb h16 ?_
  exact hK _ _ ⟨by rw[dF];exact fun h=>h16 h.1,Fr.refl _ _⟩
def c2h(p:Pol):Int:=(if p.fin then 1 else 0)+(if p.exc then 2 else 0)+(if p.cre then 4 else 0)
def Pol.bytes(p:Pol):List UInt8:=le 2 p.w++(le 1 (c2h p)++(le 2 p.f0++(le 2 p.f1++(le 2 p.f2++(le 2 p.f3++(le 2 p.s0++(le 1 p.t0++(le 2 p.s1++(le 1 p.t1++(le 2 p.s2++(le 1 p.t2++(le 2 p.s3++le 1 p.t3))))))))))))
def c3T(l:List Pol):List UInt8:=le 2 l.length++l.flatMap Pol.bytes
end Go.Proofs.YtjagmebglhbdkaaGreat.MX
