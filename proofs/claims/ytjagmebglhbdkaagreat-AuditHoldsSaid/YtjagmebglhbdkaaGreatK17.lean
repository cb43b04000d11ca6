import Derived.Test.YtjagmebglhbdkaaGreatK14
import Derived.Test.YtjagmebglhbdkaaGreatK16
import Derived.Test.YtjagmebglhbdkaaGreatK12
namespace Go.Proofs.YtjagmebglhbdkaaGreat.MX
open Go Go.Proofs
set_option linter.unusedSimpArgs false
set_option linter.unusedVariables false
section
set_option maxHeartbeats 8000000
set_option maxRecDepth 100000
theorem b0V(hi lo y:Nat)(hlt:hi<y)(hy:y<18446744073709551616)(hlo:lo<18446744073709551616)(h:c9):
  d8 Tryz.prog 184 [.int .u64 hi,.int .u64 lo,.int .u64 y] h fun v h'=>v= .tuple #[.int .u64 ((hi*18446744073709551616+lo)/y:Nat),.int .u64 ((hi*18446744073709551616+lo)%y:Nat)]∧h'=h:=by
 have hy0:¬(y:Int)=0:=by omega
 have hyh:¬(y:Int)≤hi:=by omega
 by_cases hh:hi=0
 ·subst hh
  have d1:=c4u (a:=lo) (b:=y) rfl (by omega) hlo
  have d2:=remE (a:=lo) (b:=y) rfl (by omega)
  refine EN i184.eq_1 fun K hK=> ?_
  (refine Wd @i184.eq_1 hy0 hyh ?_;try exact⟨⟩)
  refine dE ?_
  (refine Wc d1 d2 ?_;try exact⟨⟩)
  exact hK _ _ ⟨by simp,rfl⟩
 have hh':¬(hi:Int)=0:=by omega
 obtain⟨s,hs,hs64,hY1,hY2⟩:=b6W (y:=y) (by omega) hy
 have hwhole:=b4o (hi:=hi) hs64 hlo
 have e64:2^(64-s)*2^s=18446744073709551616:=by rw[←Nat.pow_add,show 64-s+s=64 by omega]
 have hps:0<2^s:=Nat.pow_pos (by decide)
 have hdl:lo/2^(64-s)<2^s:=by
  rw[Nat.div_lt_iff_lt_mul (Nat.pow_pos (by decide)),a0w,e64]
  exact hlo
 have hu32:hi*2^s+lo/2^(64-s)<y*2^s:=by
  have h1:(hi+1)*2^s≤y*2^s:=a1n _ hlt
  rw[Nat.succ_mul]at h1
  omega
 have hor:hi*2^s|||lo/2^(64-s)=hi*2^s+lo/2^(64-s):=by
  have:=Nat.two_pow_add_eq_or_of_lt (i:=s) hdl hi
  rw[a0w hi]
  exact this.symm
 have hq:(hi*18446744073709551616+lo)/y=(hi*18446744073709551616+lo)*2^s/(y*2^s):=(Nat.mul_div_mul_right _ _ hps).symm
 have hr:(hi*18446744073709551616+lo)%y=(hi*18446744073709551616+lo)*2^s% (y*2^s)/2^s:=by
  rw[Nat.mul_mod_mul_right,Nat.mul_div_cancel _ hps]
 rw[←hwhole]at hq hr
 have hA:hi*2^s<18446744073709551616:=Nat.lt_of_le_of_lt (Nat.le_add_right _ _) (Nat.lt_trans hu32 hY1)
 have hB:lo/2^(64-s)<18446744073709551616:=Nat.lt_of_le_of_lt (Nat.le_add_left _ _) (Nat.lt_trans hu32 hY1)
 have f1:=c4D (k':= .u64) (a:=y) (k:=s) (c:=y*2^s) (by omega) (Nat.mod_eq_of_lt hY1)
 have f2:=c4D (k':= .u64) (a:=hi) (k:=s) (c:=hi*2^s) (by omega) (Nat.mod_eq_of_lt hA)
 have f3:C0 .sub (.int .u64 64) (.int .u64 s)=some (.int .u64 ((64-s:Nat):Int)):=b0I (a:=64) (b:=s) (c:=64-s) (by omega) (by omega)
 have f4:=c0z (k':= .u64) (a:=lo) (k:=64-s) (by omega) rfl
 have f5:=orE (a:=hi*2^s) (b:=lo/2^(64-s)) hA hB hor
 have f6:=c4D (k':= .u64) (a:=lo) (k:=s) (by omega) rfl
 have hu10:lo*2^s%18446744073709551616<18446744073709551616:=Nat.mod_lt _ (by decide)
 have hend:∀r:Nat,r/2^s=r/2^s:=fun _=>rfl
 have f7:=fun r:Nat=>c0z (k':= .u64) (a:=r) (k:=s) (by omega) rfl
 clear hwhole e64 hdl hor hend
 generalize hu32e:hi*2^s+lo/2^(64-s)=u32 at*
 generalize lo*2^s%18446744073709551616=u10 at*
 generalize y*2^s=Y at*
 have gY1:=a2R Y
 have gY0:=a6R Y (by omega)
 have gu1:=a2R u10
 have gu0:=a6R u10 (by omega)
 have hYe:Y=Y/4294967296*4294967296+Y%4294967296:=by omega
 have hue:u10=u10/4294967296*4294967296+u10%4294967296:=by omega
 have b1:2147483648≤Y/4294967296:=by omega
 have b1':Y/4294967296<4294967296:=by omega
 have b2:Y%4294967296<4294967296:=by omega
 have b3:u10/4294967296<4294967296:=by omega
 have b4:u10%4294967296<4294967296:=by omega
 obtain⟨q1,u21,q0,rm,hq1d,hdm,hu21,hq0d,hdm0,hrem,htd1,htd2⟩:=b6B (Y:=Y) (u32:=u32) (u1:=u10/4294967296) (u0:=u10%4294967296) (by omega) b4
 rw[←hue]at htd1 htd2
 rw[htd1]at hq
 rw[htd2]at hr
 clear htd1 htd2
 generalize Y/4294967296=y1 at*
 generalize Y%4294967296=y0 at*
 generalize u10/4294967296=n1 at*
 generalize u10%4294967296=n0 at*
 clear hue
 subst hYe
 refine EN i184.eq_1 fun K hK=> ?_
 (refine We @i184.eq_1 hy0 hyh hh' ?_;try exact⟨⟩)
 refine cI (a4h y hy h) ?_
 rintro _ h2 ⟨rfl,e⟩
 subst e
 rw[hs]
 have ws:=a1z (n:=s) (by omega)
 have hy1:y1≠0:=by omega
 have g1:=c4u (a:=u32) (b:=y1) rfl hy1 (by omega)
 have hqr:=Nat.div_add_mod u32 y1
 rw[a0w]at hqr
 have hrl:=Nat.mod_lt u32 (show 0<y1 by omega)
 have hq0:=b8F b1 b2 hu32
 have htop:=b4I (u:=u32) (u1:=n1) (y0:=y0) (show 0<y1 by omega) b3
 rw[←hq1d]at htop
 have g2:=a6m (a:=u32/y1) (b:=y1) rfl (by omega)
 have g3:=b0I (a:=u32) (b:=u32/y1*y1) (c:=u32%y1) (by omega) (by omega)
 (refine Wi ws f1 f2 f3 f4 f5 f6 (Pf gY1 gY0 gu1 gu0 (Pd g1 g2 g3)) ?_;try exact⟨⟩)
 refine a1q (fun ρ' h'=>h'=h2∧ρ' 2= .int .u64 ((y1*4294967296+y0:Nat):Int)∧ρ' 8= .int .u64 s∧ρ' 9= .int .u64 y1∧ρ' 10= .int .u64 y0∧ρ' 11= .int .u64 u32∧ρ' 13= .int .u64 n1∧ρ' 14= .int .u64 n0∧ρ' 15= .int .u64 ((q1:Nat):Int)) ?_ ?_
 ·intro J0 hJ0
  refine lI (fun ρ'' h''=>h''=h2∧ρ'' 2= .int .u64 ((y1*4294967296+y0:Nat):Int)∧ρ'' 8= .int .u64 s∧ρ'' 9= .int .u64 y1∧ρ'' 10= .int .u64 y0∧ρ'' 11= .int .u64 u32∧ρ'' 13= .int .u64 n1∧ρ'' 14= .int .u64 n0∧∃q r:Nat,ρ'' 15= .int .u64 q∧ρ'' 16= .int .u64 r∧q*y1+r=u32∧q1≤q∧r<4294967296∧q≤4294967297) (fun ρ'' _=>(iv (ρ'' 15)).toNat) ?_ ?_
  ·(refine Wa ?_;try exact⟨⟩)
   exact⟨_,_,rfl,rfl,hqr,htop,by omega,hq0⟩
  ·rintro ρ1 h1 J1 hJ1 ⟨rfl,e2,e8,e9,e10,e11,e13,e14,q,r,eq,er,hqr',hQ,hr',hq'⟩
   by_cases c:(4294967296:Int)≤(q:Nat)
   ·have hQ1:q1≤q-1:=by have:=b0f (y0:=y0) (show 0<y1 by omega) b3 hu32;omega
    have hq1:1≤q:=by omega
    have k1:C0 .sub (.int .u64 q) (.int .u64 1)=some (.int .u64 ((q-1:Nat):Int)):=b0I (a:=q) (b:=1) (c:=q-1) (by omega) (by omega)
    have k2:=a5f (a:=r) (b:=y1) rfl (by omega)
    have hsum:(q-1)*y1+(r+y1)=u32:=by
     obtain⟨p,rfl⟩:∃p,q=p+1:=⟨q-1,by omega⟩
     rw[R8]at hqr'
     rw[a4E]
     omega
    by_cases c2:(4294967296:Int)≤(r+y1:Nat)
    ·(refine Wi eq er c e2 e8 e9 e10 (Pf e11 e13 e14 k1 (Pc k2 c2)) ?_;try exact⟨⟩)
     have hle:q-1≤q1:=by
      rw[hq1d]
      refine a2Z (by omega) hsum ?_
      have h1:(q-1)*y0≤4294967296*4294967296:=Nat.mul_le_mul (by omega) (by omega)
      have h2:4294967296*4294967296≤(r+y1)*4294967296:=a1n _ (by omega)
      exact Z0 h1 (Z0 h2 (Nat.le_add_right _ _))
     refine hJ0 _ _ ⟨rfl,by(refine Wb e2 ?_;try exact⟨⟩),by(refine Wb e8 ?_;try exact⟨⟩),by(refine Wb e9 ?_;try exact⟨⟩),by(refine Wb e10 ?_;try exact⟨⟩),by(refine Wb e11 ?_;try exact⟨⟩),by(refine Wb e13 ?_;try exact⟨⟩),by(refine Wb e14 ?_;try exact⟨⟩),?_⟩
     (refine Wa ?_;try exact⟨⟩)
     exact congrArg (Value.int .u64) (by omega)
    ·(refine Wi eq er c e2 e8 e9 e10 (Pf e11 e13 e14 k1 (Pc k2 c2)) ?_;try exact⟨⟩)
     refine hJ1 _ _ ?_ ?_
     ·(refine Wh e2 e8 e9 e10 e11 e13 e14 ?_;try exact⟨⟩)
      exact⟨_,_,rfl,rfl,hsum,hQ1,by omega,by omega⟩
     ·(refine Wb eq ?_;try exact⟨⟩)
      omega
   ·have k3:=a6m (a:=q) (b:=y0) rfl (by have:=Nat.mul_le_mul (show q≤4294967295 by omega) (show y0≤4294967295 by omega);omega)
    have k4:C0 .mul (.int .u64 4294967296) (.int .u64 r)=some (.int .u64 ((4294967296*r:Nat):Int)):=a6m (a:=4294967296) (b:=r) rfl (by omega)
    have k5:=a5f (a:=4294967296*r) (b:=n1) rfl (by omega)
    by_cases c3:((4294967296*r+n1:Nat):Int)<(q*y0:Nat)
    ·have hQs:q1<q:=by
      rw[hq1d]
      have:=b1u (u1:=n1) (y0:=y0) (show 0<y1 by omega) hqr' (by rw[a0w r];exact Int.ofNat_lt.1 c3)
      exact this
     have hQ1:q1≤q-1:=by omega
     have hq1:1≤q:=by omega
     have k1:C0 .sub (.int .u64 q) (.int .u64 1)=some (.int .u64 ((q-1:Nat):Int)):=b0I (a:=q) (b:=1) (c:=q-1) (by omega) (by omega)
     have k2:=a5f (a:=r) (b:=y1) rfl (by omega)
     have hsum:(q-1)*y1+(r+y1)=u32:=by
      obtain⟨p,rfl⟩:∃p,q=p+1:=⟨q-1,by omega⟩
      rw[R8]at hqr'
      rw[a4E]
      omega
     by_cases c2:(4294967296:Int)≤(r+y1:Nat)
     ·(refine Wi eq er c k3 k4 k5 c3 (Pf e2 e8 e9 e10 (Pf e11 e13 e14 k1 (Pc k2 c2))) ?_;try exact⟨⟩)
      have hle:q-1≤q1:=by
       rw[hq1d]
       refine a2Z (by omega) hsum ?_
       have h1:(q-1)*y0≤4294967296*4294967296:=Nat.mul_le_mul (by omega) (by omega)
       have h2:4294967296*4294967296≤(r+y1)*4294967296:=a1n _ (by omega)
       exact Z0 h1 (Z0 h2 (Nat.le_add_right _ _))
      refine hJ0 _ _ ⟨rfl,by(refine Wb e2 ?_;try exact⟨⟩),by(refine Wb e8 ?_;try exact⟨⟩),by(refine Wb e9 ?_;try exact⟨⟩),by(refine Wb e10 ?_;try exact⟨⟩),by(refine Wb e11 ?_;try exact⟨⟩),by(refine Wb e13 ?_;try exact⟨⟩),by(refine Wb e14 ?_;try exact⟨⟩),?_⟩
      (refine Wa ?_;try exact⟨⟩)
      exact congrArg (Value.int .u64) (by omega)
     ·(refine Wi eq er c k3 k4 k5 c3 (Pf e2 e8 e9 e10 (Pf e11 e13 e14 k1 (Pc k2 c2))) ?_;try exact⟨⟩)
      refine hJ1 _ _ ?_ ?_
      ·(refine Wh e2 e8 e9 e10 e11 e13 e14 ?_;try exact⟨⟩)
       exact⟨_,_,rfl,rfl,hsum,hQ1,by omega,by omega⟩
      ·(refine Wb eq ?_;try exact⟨⟩)
       omega
    ·have hle:q≤q1:=by
      rw[hq1d]
      refine a2Z (by omega) hqr' ?_
      rw[a0w r]
      exact Nat.le_of_not_lt fun h=>c3 (Int.ofNat_lt.2 h)
     (refine Wi eq er c k3 k4 k5 c3 (Pf e2 e8 e9 e10 (Pd e11 e13 e14)) ?_;try exact⟨⟩)
     refine hJ0 _ _ ⟨rfl,by(refine Wb e2 ?_;try exact⟨⟩),by(refine Wb e8 ?_;try exact⟨⟩),by(refine Wb e9 ?_;try exact⟨⟩),by(refine Wb e10 ?_;try exact⟨⟩),by(refine Wb e11 ?_;try exact⟨⟩),by(refine Wb e13 ?_;try exact⟨⟩),by(refine Wb e14 ?_;try exact⟨⟩),?_⟩
     (refine Wb eq ?_;try exact⟨⟩)
     exact congrArg (Value.int .u64) (by omega)
 clear hqr htop hq0 hrl g1 g2 g3 f1 f2 f3 f4 f5 f6
 rintro ρ h3 ⟨e,e2,e8,e9,e10,e11,e13,e14,e15⟩
 subst e
 have hq1B:=b0f (y0:=y0) (show 0<y1 by omega) b3 hu32
 rw[←hq1d]at hq1B
 have m1:C0 .mul (.int .u64 u32) (.int .u64 4294967296)=some (.int .u64 ((u32*4294967296%18446744073709551616:Nat):Int)):=b9B (a:=u32) (b:=4294967296)
 have m2:=addM (a:=u32*4294967296%18446744073709551616) (b:=n1)
 have m3:=b9B (a:=q1) (b:=y1*4294967296+y0)
 have m4:C0 .sub (.int .u64 ((u32*4294967296%18446744073709551616+n1)%18446744073709551616:Nat)) (.int .u64 (q1*(y1*4294967296+y0)%18446744073709551616:Nat))=some (.int .u64 (u21:Nat)):=subM (by generalize q1*(y1*4294967296+y0)=z at*;omega)
 have g1:=c4u (a:=u21) (b:=y1) rfl hy1 (by omega)
 have hqr:=Nat.div_add_mod u21 y1
 rw[a0w]at hqr
 have hrl:=Nat.mod_lt u21 (show 0<y1 by omega)
 have hq0:=b8F b1 b2 hu21
 have htop:=b4I (u:=u21) (u1:=n0) (y0:=y0) (show 0<y1 by omega) b4
 rw[←hq0d]at htop
 have g2:=a6m (a:=u21/y1) (b:=y1) rfl (by omega)
 have g3:=b0I (a:=u21) (b:=u21/y1*y1) (c:=u21%y1) (by omega) (by omega)
 (refine Wi e2 e8 e9 e10 e11 e13 e14 (Pf e15 m1 m2 m3 (Pe m4 g1 g2 g3)) ?_;try exact⟨⟩)
 refine a1q (fun ρ' h''=>h''=h3∧ρ' 2= .int .u64 ((y1*4294967296+y0:Nat):Int)∧ρ' 8= .int .u64 s∧ρ' 14= .int .u64 n0∧ρ' 9= .int .u64 y1∧ρ' 10= .int .u64 y0∧ρ' 15= .int .u64 q1∧ρ' 17= .int .u64 u21∧ρ' 18= .int .u64 ((q0:Nat):Int)) ?_ ?_
 ·intro J0 hJ0
  refine lI (fun ρ'' h''=>h''=h3∧ρ'' 2= .int .u64 ((y1*4294967296+y0:Nat):Int)∧ρ'' 8= .int .u64 s∧ρ'' 14= .int .u64 n0∧ρ'' 9= .int .u64 y1∧ρ'' 10= .int .u64 y0∧ρ'' 15= .int .u64 q1∧ρ'' 17= .int .u64 u21∧∃q r:Nat,ρ'' 18= .int .u64 q∧ρ'' 16= .int .u64 r∧q*y1+r=u21∧q0≤q∧r<4294967296∧q≤4294967297) (fun ρ'' _=>(iv (ρ'' 18)).toNat) ?_ ?_
  ·(refine Wg e2 e8 e14 e9 e10 e15 ?_;try exact⟨⟩)
   exact⟨_,_,rfl,rfl,hqr,htop,by omega,hq0⟩
  ·rintro ρ1 h1 J1 hJ1 ⟨rfl,e2,e8,e14,e9,e10,e15,e17,q,r,eq,er,hqr',hQ,hr',hq'⟩
   by_cases c:(4294967296:Int)≤(q:Nat)
   ·have hQ1:q0≤q-1:=by have:=b0f (y0:=y0) (show 0<y1 by omega) b4 hu21;omega
    have hq1:1≤q:=by omega
    have k1:C0 .sub (.int .u64 q) (.int .u64 1)=some (.int .u64 ((q-1:Nat):Int)):=b0I (a:=q) (b:=1) (c:=q-1) (by omega) (by omega)
    have k2:=a5f (a:=r) (b:=y1) rfl (by omega)
    have hsum:(q-1)*y1+(r+y1)=u21:=by
     obtain⟨p,rfl⟩:∃p,q=p+1:=⟨q-1,by omega⟩
     rw[R8]at hqr'
     rw[a4E]
     omega
    by_cases c2:(4294967296:Int)≤(r+y1:Nat)
    ·(refine Wi eq er c e2 e8 e14 e9 (Pf e10 e15 e17 k1 (Pc k2 c2)) ?_;try exact⟨⟩)
     have hle:q-1≤q0:=by
      rw[hq0d]
      refine a2Z (by omega) hsum ?_
      have h1:(q-1)*y0≤4294967296*4294967296:=Nat.mul_le_mul (by omega) (by omega)
      have h2:4294967296*4294967296≤(r+y1)*4294967296:=a1n _ (by omega)
      exact Z0 h1 (Z0 h2 (Nat.le_add_right _ _))
     refine hJ0 _ _ ⟨rfl,by(refine Wb e2 ?_;try exact⟨⟩),by(refine Wb e8 ?_;try exact⟨⟩),by(refine Wb e14 ?_;try exact⟨⟩),by(refine Wb e9 ?_;try exact⟨⟩),by(refine Wb e10 ?_;try exact⟨⟩),by(refine Wb e15 ?_;try exact⟨⟩),by(refine Wb e17 ?_;try exact⟨⟩),?_⟩
     (refine Wa ?_;try exact⟨⟩)
     exact congrArg (Value.int .u64) (by omega)
    ·(refine Wi eq er c e2 e8 e14 e9 (Pf e10 e15 e17 k1 (Pc k2 c2)) ?_;try exact⟨⟩)
     refine hJ1 _ _ ?_ ?_
     ·(refine Wh e2 e8 e14 e9 e10 e15 e17 ?_;try exact⟨⟩)
      exact⟨_,_,rfl,rfl,hsum,hQ1,by omega,by omega⟩
     ·(refine Wb eq ?_;try exact⟨⟩)
      omega
   ·have k3:=a6m (a:=q) (b:=y0) rfl (by have:=Nat.mul_le_mul (show q≤4294967295 by omega) (show y0≤4294967295 by omega);omega)
    have k4:C0 .mul (.int .u64 4294967296) (.int .u64 r)=some (.int .u64 ((4294967296*r:Nat):Int)):=a6m (a:=4294967296) (b:=r) rfl (by omega)
    have k5:=a5f (a:=4294967296*r) (b:=n0) rfl (by omega)
    by_cases c3:((4294967296*r+n0:Nat):Int)<(q*y0:Nat)
    ·have hQs:q0<q:=by
      rw[hq0d]
      have:=b1u (u1:=n0) (y0:=y0) (show 0<y1 by omega) hqr' (by rw[a0w r];exact Int.ofNat_lt.1 c3)
      exact this
     have hQ1:q0≤q-1:=by omega
     have hq1:1≤q:=by omega
     have k1:C0 .sub (.int .u64 q) (.int .u64 1)=some (.int .u64 ((q-1:Nat):Int)):=b0I (a:=q) (b:=1) (c:=q-1) (by omega) (by omega)
     have k2:=a5f (a:=r) (b:=y1) rfl (by omega)
     have hsum:(q-1)*y1+(r+y1)=u21:=by
      obtain⟨p,rfl⟩:∃p,q=p+1:=⟨q-1,by omega⟩
      rw[R8]at hqr'
      rw[a4E]
      omega
     by_cases c2:(4294967296:Int)≤(r+y1:Nat)
     ·(refine Wi eq er c k3 k4 k5 c3 (Pf e2 e8 e14 e9 (Pf e10 e15 e17 k1 (Pc k2 c2))) ?_;try exact⟨⟩)
      have hle:q-1≤q0:=by
       rw[hq0d]
       refine a2Z (by omega) hsum ?_
       have h1:(q-1)*y0≤4294967296*4294967296:=Nat.mul_le_mul (by omega) (by omega)
       have h2:4294967296*4294967296≤(r+y1)*4294967296:=a1n _ (by omega)
       exact Z0 h1 (Z0 h2 (Nat.le_add_right _ _))
      refine hJ0 _ _ ⟨rfl,by(refine Wb e2 ?_;try exact⟨⟩),by(refine Wb e8 ?_;try exact⟨⟩),by(refine Wb e14 ?_;try exact⟨⟩),by(refine Wb e9 ?_;try exact⟨⟩),by(refine Wb e10 ?_;try exact⟨⟩),by(refine Wb e15 ?_;try exact⟨⟩),by(refine Wb e17 ?_;try exact⟨⟩),?_⟩
      (refine Wa ?_;try exact⟨⟩)
      exact congrArg (Value.int .u64) (by omega)
     ·(refine Wi eq er c k3 k4 k5 c3 (Pf e2 e8 e14 e9 (Pf e10 e15 e17 k1 (Pc k2 c2))) ?_;try exact⟨⟩)
      refine hJ1 _ _ ?_ ?_
      ·(refine Wh e2 e8 e14 e9 e10 e15 e17 ?_;try exact⟨⟩)
       exact⟨_,_,rfl,rfl,hsum,hQ1,by omega,by omega⟩
      ·(refine Wb eq ?_;try exact⟨⟩)
       omega
    ·have hle:q≤q0:=by
      rw[hq0d]
      refine a2Z (by omega) hqr' ?_
      rw[a0w r]
      exact Nat.le_of_not_lt fun h=>c3 (Int.ofNat_lt.2 h)
     (refine Wi eq er c k3 k4 k5 c3 (Pf e2 e8 e14 e9 (Pd e10 e15 e17)) ?_;try exact⟨⟩)
     refine hJ0 _ _ ⟨rfl,by(refine Wb e2 ?_;try exact⟨⟩),by(refine Wb e8 ?_;try exact⟨⟩),by(refine Wb e14 ?_;try exact⟨⟩),by(refine Wb e9 ?_;try exact⟨⟩),by(refine Wb e10 ?_;try exact⟨⟩),by(refine Wb e15 ?_;try exact⟨⟩),by(refine Wb e17 ?_;try exact⟨⟩),?_⟩
     (refine Wb eq ?_;try exact⟨⟩)
     exact congrArg (Value.int .u64) (by omega)
 clear hqr htop hq0 hrl g1 g2 g3 m1 m2 m3 m4 e2 e8 e9 e10 e11 e13 e14 e15
 rintro ρ h' ⟨e,e2,e8,e14,e9,e10,e15,e17,e18⟩
 subst e
 have hq0B:=b0f (y0:=y0) (show 0<y1 by omega) b4 hu21
 rw[←hq0d]at hq0B
 have m1:C0 .mul (.int .u64 q1) (.int .u64 4294967296)=some (.int .u64 ((q1*4294967296:Nat):Int)):=a6m (a:=q1) (b:=4294967296) rfl (c5j hq1B)
 have m2:=a5f (a:=q1*4294967296) (b:=q0) rfl (c5k hq1B hq0B)
 have m3:C0 .mul (.int .u64 u21) (.int .u64 4294967296)=some (.int .u64 ((u21*4294967296%18446744073709551616:Nat):Int)):=b9B (a:=u21) (b:=4294967296)
 have m4:=addM (a:=u21*4294967296%18446744073709551616) (b:=n0)
 have m5:=b9B (a:=q0) (b:=y1*4294967296+y0)
 have m6:C0 .sub (.int .u64 ((u21*4294967296%18446744073709551616+n0)%18446744073709551616:Nat)) (.int .u64 (q0*(y1*4294967296+y0)%18446744073709551616:Nat))=some (.int .u64 (rm:Nat)):=subM (by generalize q0*(y1*4294967296+y0)=z at*;omega)
 (refine Wi e2 e8 e14 e15 e17 e18 m1 (Pf m2 m3 m4 m5 (Pc m6 f7)) ?_;try exact⟨⟩)
 exact hK _ _ ⟨by rw[hq,hr],rfl⟩
end
section
set_option maxHeartbeats 4000000
def c1O(a b:Int):Int:=if a<b then-1 else if b<a then 1 else 0
theorem a0h(a:Int)(h:c9):d8 Tryz.prog 220 [.int .u64 a] h fun v h'=>v= .bool false∧h'=h:=by
 refine EN i220.eq_1 fun K hK=>Wa ?_
 exact hK _ _ ⟨rfl,rfl⟩
theorem b0U(a b:Int)(h:c9):d8 Tryz.prog 187 [.int .u64 a,.int .u64 b] h fun v h'=>v= .int .i64 (c1O a b)∧h'=h:=by
 unfold c1O
 by_cases h1:a<b
 ·refine EN i187.eq_1 fun K hK=>Wa ?_
  refine cI (a0h _ _) ?_
  rintro _ _ ⟨rfl,rfl⟩
  refine Wa ?_
  refine cI (a0h _ _) ?_
  rintro _ _ ⟨rfl,rfl⟩
  refine Wb h1 ?_
  exact hK _ _ ⟨by simp[h1],rfl⟩
 ·by_cases h2:b<a
  ·refine EN i187.eq_1 fun K hK=>Wa ?_
   refine cI (a0h _ _) ?_
   rintro _ _ ⟨rfl,rfl⟩
   refine Wa ?_
   refine cI (a0h _ _) ?_
   rintro _ _ ⟨rfl,rfl⟩
   refine Wc h1 h2 ?_
   exact hK _ _ ⟨by simp[h1,h2],rfl⟩
  ·refine EN i187.eq_1 fun K hK=>Wa ?_
   refine cI (a0h _ _) ?_
   rintro _ _ ⟨rfl,rfl⟩
   refine Wa ?_
   refine cI (a0h _ _) ?_
   rintro _ _ ⟨rfl,rfl⟩
   refine Wc h1 h2 ?_
   exact hK _ _ ⟨by simp[h1,h2],rfl⟩
def a8f(x:Nat):List Value:=[.int .u64 (x:Int)]
theorem a4Z(x:Nat):(a8f x).length=1:=rfl
theorem b4f(x:Nat):pC (a8f x)=true:=rfl
section
variable{h0 h:c9}{l:List HP}
theorem a6y{T b n c:Nat}{D:List Nat}(S:St h0 h (i4 a8f 1 T (.slice (some ⟨b,0,none⟩) n c) D::l)){i:Nat}(hi:i<D.length):rd1 h (.pointer (some ⟨b,i*1,none⟩))=some (.int .u64 (D[i]:Nat)):=by
 obtain⟨b',o',hA,hr⟩:=S.arr a4Z i hi
 cases hA
 have:=rP hr 0 (by omega)
 simpa[a8f]using this
theorem b2V{t9:Nat}{B:Option Addr}{c:Nat}{rest:List Nat}(a b:Nat)(ha:a<rest.length)(hb:b<rest.length)(S:St h0 h (d9 t9 [.slice B rest.length c] 215::i4 a8f 1 216 (.slice B rest.length c) rest::l)):
  d8 Tryz.prog 186 [.int .i64 a,.int .i64 b,.pointer (some ⟨t9,0,none⟩)] h fun v h'=>v= .int .i64 (c1O (rest[b]:Nat) (rest[a]:Nat))∧h'=h:=by
 obtain⟨bk,rfl⟩:=S.p1.ownAt (by omega)
 have r0:rd1 h (.pointer (some ⟨t9,0,none⟩))=some (.slice (some ⟨bk,0,none⟩) rest.length c):=m8 S
 have r1:=a6y S.p1 ha
 have r2:=a6y S.p1 hb
 refine EN i186.eq_1 fun K hK=>Wa ?_
 refine dE ?_
 refine Wd r0 r1 r2 ?_
 refine cI (b0U _ _ _) ?_
 rintro _ _ ⟨rfl,rfl⟩
 refine Wa ?_
 exact hK _ _ ⟨rfl,rfl⟩
theorem b2X{t9:Nat}{B A:Option Addr}{c n d:Nat}{rest:List Nat}:b0T (.func (.func 186) #[] (List.toArray [.pointer (some ⟨t9,0,none⟩)])) (fun i=>rest.getD i.toNat 0) (fun i=>0≤i∧i<rest.length) h0 A n d
  (d9 t9 [.slice B rest.length c] 215::i4 a8f 1 216 (.slice B rest.length c) rest::l):=by
 intro h' D K s t a b hda hdb S hk
 obtain⟨ha0,ha1⟩:=hda
 obtain⟨hb0,hb1⟩:=hdb
 obtain⟨a,rfl⟩:∃k:Nat,a=k:=⟨a.toNat,by omega⟩
 obtain⟨b,rfl⟩:∃k:Nat,b=k:=⟨b.toNat,by omega⟩
 have ha:a<rest.length:=by omega
 have hb:b<rest.length:=by omega
 refine a8O (a:=[]) (b:=[.pointer (some ⟨t9,0,none⟩)]) a4I ((b2V a b ha hb S.tl).mono ?_)
 rintro v h'' ⟨rfl,rfl⟩
 refine hk _ _ ?_ S
 simp only[K0,l_s,l_r ha,l_r hb,Option.getD_some]
 unfold c1O
 split
 ·constructor
  ·intro _;omega
  ·intro _;decide
 ·split
  ·constructor
   ·intro h;omega
   ·intro h;omega
  ·constructor
   ·intro h;omega
   ·intro h;omega
end
end
section
set_option maxHeartbeats 4000000
def a3N(w:Int):Prop:=0≤w∧w≤1125899906842624
instance (w:Int):Decidable (a3N w):=by unfold a3N;exact inferInstance
def N3(sum:Int)(ws:List Int):Int:=
 if ws.length<1∨200<ws.length∨¬∀w∈ws,a3N w then 1
 else if sum<0∨1125899906842624<sum∨1125899906842624<ws.sum then 9 else 0
def a5h(sum:Int)(ws:List Int):Int:=if N3 sum ws=0 then ws.sum else 0
theorem a3r:∀{ws:List Int},(∀w∈ws,a3N w)→0≤ws.sum∧ws.sum≤1125899906842624*ws.length
 | [],_=>by simp
 |w::ws,h=>by
  have h1:=h w (by simp)
  have h2:=a3r (ws:=ws) fun x hx=>h x (by simp[hx])
  unfold a3N at h1
  rw[K1,l_f]
  omega
section
variable{h:c9}
theorem a6W{A:Option Addr}{c:Nat}{ws:List Int}(sum:Int)(ha:Arr i6 1 h A ws)(hl:ws.length<1000000000):
  d8 Tryz.prog 181 [.int .i64 sum,.slice A ws.length c] h fun v h'=>v= .tuple #[.int .i64 (a5h sum ws),.int .i64 (N3 sum ws)]∧h'=h:=by
 by_cases h1:(ws.length:Int)<1
 ·have e:N3 sum ws=1:=by unfold N3;rw[if_pos (.inl (by omega))]
  refine EN i181.eq_1 fun K hK=> ?_
  refine Wb h1 ?_
  exact hK _ _ ⟨by rw[a5h,e];rfl,rfl⟩
 by_cases h2:(200:Int)<ws.length
 ·have e:N3 sum ws=1:=by unfold N3;rw[if_pos (.inr (.inl (by omega)))]
  refine EN i181.eq_1 fun K hK=> ?_
  refine Wc h1 h2 ?_
  exact hK _ _ ⟨by rw[a5h,e];rfl,rfl⟩
 refine EN i181.eq_1 fun K hK=> ?_
 refine Wc h1 h2 ?_
 refine lI (fun ρ h'=>h'=h∧ρ 0= .int .i64 sum∧ρ 17= .slice A ws.length c∧ρ 18= .int .i64 ws.length∧∃i:Nat,ρ 19= .int .i64 i∧i≤ws.length∧(∀w∈ws.take i,a3N w)∧ρ 6= .int .i64 (ws.take i).sum) (fun ρ _=>ws.length-(iv (ρ 19)).toNat) ?_ ?_
 ·refine Wa ?_
  exact⟨0,rfl,by omega,by simp,by simp⟩
 rintro ρ h' J hJ ⟨rfl,e0,e17,e18,i,e19,hi,hfit,e6⟩
 refine Wc e18 e19 ?_
 refine cD (fun hlt=> ?_) (fun hlt=> ?_)
 ·have hil:i<ws.length:=by omega
  obtain⟨bk,off,rfl,hr⟩:=ha i hil
  have hr:=rP hr 0 (by omega)
  simp only[i6,l_o,H8]at hr
  have hmem:ws[i]∈ws:=l_v hil
  have hb:=a3r hfit
  have hbl:(ws.take i).length≤200:=by rw[x4];omega
  generalize hz:ws[i]=z at hr hmem
  have hbad:¬a3N z→N3 sum ws=1:=fun hn=>by
   unfold N3
   rw[if_pos (.inr (.inr fun h=>hn (h z hmem)))]
  by_cases c1:z<0
  ·have e:=hbad fun h=>by unfold a3N at h;omega
   refine We e17 e19 hr c1 ?_
   exact hK _ _ ⟨by rw[a5h,e];rfl,rfl⟩
  by_cases c2:(1125899906842624:Int)<z
  ·have e:=hbad fun h=>by unfold a3N at h;omega
   refine Wf e17 e19 hr c1 c2 ?_
   exact hK _ _ ⟨by rw[a5h,e];rfl,rfl⟩
  have w1:IntKind.i64.wrap ((ws.take i).sum+z)=(ws.take i).sum+z:=u5 (by omega) (by omega)
  refine Wh e17 e19 hr c1 c2 e6 w1 ?_
  refine hJ _ _ ?_ ?_
  ·refine Wd e0 e17 e18 ?_
   refine⟨i+1,rfl,by omega,?_,?_⟩
   ·rw[l_t hil,hz]
    intro w hw
    rcases List.mem_append.1 hw with hw|hw
    ·exact hfit w hw
    ·simp only[U1]at hw
     subst hw
     exact⟨by omega,by omega⟩
   ·rw[l_t hil,hz,a2m]
    simp
  ·refine Wb e19 ?_
   omega
 ·obtain rfl:i=ws.length:=by omega
  rw[C9]at hfit e6
  have e9:(sum<0∨1125899906842624<sum∨1125899906842624<ws.sum)→N3 sum ws=9:=fun hx=>by
   unfold N3
   rw[if_neg (by rintro(h|h|h)<;>first|omega|exact h hfit),if_pos hx]
  have e00:¬(sum<0∨1125899906842624<sum∨1125899906842624<ws.sum)→N3 sum ws=0:=fun hx=>by
   unfold N3
   rw[if_neg (by rintro(h|h|h)<;>first|omega|exact h hfit),if_neg hx]
  by_cases c1:sum<0
  ·have e:=e9 (.inl c1)
   refine Wd e0 e6 c1 ?_
   exact hK _ _ ⟨by rw[a5h,e];rfl,rfl⟩
  by_cases c2:(1125899906842624:Int)<sum
  ·have e:=e9 (.inr (.inl c2))
   refine We e0 e6 c1 c2 ?_
   exact hK _ _ ⟨by rw[a5h,e];rfl,rfl⟩
  by_cases c3:(1125899906842624:Int)<ws.sum
  ·have e:=e9 (.inr (.inr c3))
   refine Wf e0 e6 c1 c2 c3 ?_
   exact hK _ _ ⟨by rw[a5h,e];rfl,rfl⟩
  have e:=e00 (by omega)
  refine Wf e0 e6 c1 c2 c3 ?_
  exact hK _ _ ⟨by rw[a5h,e];rfl,rfl⟩
end
end
section
set_option maxHeartbeats 4000000
theorem b5g(rest x of q:Nat)(h1:rest<of)(h2:x≤of)(h3:of<9223372036854775808)(h4:q<18446744073709551615)(h:c9):
  d8 Tryz.prog 188 [.int .u64 rest,.int .u64 x,.int .u64 of,.int .u64 q] h fun v h'=>(∃r' q':Nat,v= .tuple #[.int .u64 r',.int .u64 q']∧q'*of+r'=q*of+rest+x∧r'<of∧q≤q'∧q'≤q+1)∧h'=h:=by
 have s1:=b0I (a:=of) (b:=rest) (c:=of-rest) (by omega) (by omega)
 by_cases c1:((of-rest:Nat):Int)≤x
 ·have s2:=b0I (a:=x) (b:=of-rest) (c:=x-(of-rest)) (by omega) (by omega)
  have s3:C0 .add (.int .u64 q) (.int .u64 1)=some (.int .u64 ((q+1:Nat):Int)):=a5f (a:=q) (b:=1) rfl (by omega)
  refine EN i188.eq_1 fun K hK=> ?_
  refine Wf @i188.eq_1 s1 s2 s3 c1 ?_
  exact hK _ _ ⟨⟨_,_,rfl,by rw[Nat.succ_mul];omega,by omega,by omega,by omega⟩,rfl⟩
 ·have s2:=a5f (a:=rest) (b:=x) rfl (by omega)
  refine EN i188.eq_1 fun K hK=> ?_
  refine We @i188.eq_1 s1 s2 c1 ?_
  exact hK _ _ ⟨⟨_,_,rfl,by omega,by omega,by omega,by omega⟩,rfl⟩
theorem c4U{a:Nat}(ha:a<9223372036854775808):C0 .and (.int .i64 a) (.int .i64 1)=some (.int .i64 ((a%2:Nat):Int)):=by
 rw[b0a]
 have e1:BitVec.ofInt IntKind.i64.bits (a:Int)=BitVec.ofNat 64 a:=BitVec.ofInt_natCast 64 a
 have e2:BitVec.ofInt IntKind.i64.bits (1:Int)=BitVec.ofNat 64 1:=BitVec.ofInt_natCast 64 1
 have e:(BitVec.ofNat 64 a&&&BitVec.ofNat 64 1).toNat=a%2:=by
  rw[BitVec.toNat_and,BitVec.toNat_ofNat,BitVec.toNat_ofNat,Nat.mod_eq_of_lt (by omega),Nat.mod_eq_of_lt (by decide)]
  exact Nat.and_one_is_mod a
 rw[e1,e2]
 exact(congrArg (fun n:Nat=>some (Value.int IntKind.i64 (IntKind.i64.wrap (n:Int)))) e).trans (by rw[b1I (by omega)])
theorem shrI{a k:Nat}(hk:k≤64):C0 .shr (.int .i64 a) (.int .u64 k)=some (.int .i64 ((a/2^k:Nat):Int)):=by
 rw[b0d (by omega),K0,show IntKind.i64.bits=64 from rfl,Nat.min_eq_left hk,Int.fdiv_eq_ediv_of_nonneg _ (Int.le_of_lt (Int.pow_pos (by decide)))]
 simp
theorem b9c(a k:Nat):a/2^k=2*(a/2^(k+1))+(a/2^k)%2:=by
 rw[Nat.pow_succ,←Nat.div_div_eq_div_mul]
 omega
theorem a7h(a n of:Nat)(ha:a≤1125899906842624)(hn:n≤of)(h0:0<of)(hof:of≤1125899906842624)(h:c9):
  d8 Tryz.prog 127 [.int .i64 a,.int .i64 n,.int .i64 of] h fun v h'=>v= .tuple #[.int .i64 (a*n/of:Nat),.int .u64 (a*n%of:Nat)]∧h'=h:=by
 have wo:=a1z (n:=of) (by omega)
 have wn:=a1z (n:=n) (by omega)
 refine EN i127.eq_1 fun K hK=>Wa ?_
 refine lI (fun ρ h'=>h'=h∧ρ 0= .int .i64 a∧ρ 1= .int .i64 n∧ρ 2= .int .i64 of∧∃k q r:Nat,ρ 10= .int .i64 ((k:Int)-1)∧k≤51∧ρ 8= .int .u64 q∧ρ 9= .int .u64 r∧q*of+r=a/2^k*n∧r<of) (fun ρ _=>((iv (ρ 10))+1).toNat) ?_ ?_
 ·refine Wa ?_
  refine⟨51,0,0,rfl,by omega,rfl,rfl,?_,h0⟩
  rw[Nat.div_eq_of_lt (by omega)];simp
 rintro ρ h' J hJ ⟨rfl,e0,e1,e2,k,q,r,e10,hk,e8,e9,hqr,hr⟩
 have hq:q≤1125899906842624:=by
  have h1:q*of≤a/2^k*of:=Z0 (by omega) (Nat.mul_le_mul_left _ hn)
  have h2:=Nat.le_of_mul_le_mul_right h1 h0
  have h3:=Nat.div_le_self a (2^k)
  omega
 by_cases hk0:(0:Int)≤(k:Int)-1
 ·obtain⟨k,rfl⟩:∃j,k=j+1:=⟨k-1,by omega⟩
  have ek:((k+1:Nat):Int)-1=(k:Int):=by omega
  rw[ek]at e10
  have wk:=a1z (n:=k) (by omega)
  have hk0':(0:Int)≤k:=by omega
  have m1:C0 .mul (.int .u64 q) (.int .u64 2)=some (.int .u64 ((q*2:Nat):Int)):=a6m (a:=q) (b:=2) rfl (by omega)
  have hsh:=shrI (a:=a) (k:=k) (by omega)
  have hle:=Nat.div_le_self a (2^k)
  have han:=c4U (a:=a/2^k) (by omega)
  have wk1:IntKind.i64.wrap ((k:Int)-1)=(k:Int)-1:=u5 (by omega) (by omega)
  have hhalf:=b9c a k
  refine Wh e10 hk0' e8 e9 e2 m1 wo ?_
  refine cI (b5g r r of (q*2) hr (by omega) (by omega) (by omega) _) ?_
  rintro _ _ ⟨⟨r1,q1,rfl,hq1,hr1,hq1a,hq1b⟩,rfl⟩
  have hq2:q1*of+r1=2*(a/2^(k+1))*n:=by
   rw[hq1,Nat.mul_right_comm,Nat.mul_assoc 2,←hqr]
   omega
  by_cases hb:((a/2^k%2:Nat):Int)=1
  ·refine Wi e0 e10 wk hsh han hb e1 (Pd e2 wn wo) ?_
   refine cI (b5g r1 n of q1 hr1 hn (by omega) (by omega) _) ?_
   rintro _ _ ⟨⟨r2,q2,rfl,hq3,hr2,hq3a,hq3b⟩,rfl⟩
   refine Wc e10 wk1 ?_
   refine hJ _ _ ?_ ?_
   ·refine Wd e0 e1 e2 ?_
    refine⟨k,q2,r2,rfl,by omega,rfl,rfl,?_,hr2⟩
    rw[hhalf,show a/2^k%2=1 by omega,R8,Nat.one_mul,←hq2,hq3]
   ·refine Wb e10 ?_
    omega
  ·refine Wh e0 e10 wk hsh han hb wk1 ?_
   refine hJ _ _ ?_ ?_
   ·refine Wd e0 e1 e2 ?_
    refine⟨k,q1,r1,rfl,by omega,rfl,rfl,?_,hr1⟩
    rw[hhalf,show a/2^k%2=0 by omega,H8,←hq2]
   ·refine Wb e10 ?_
    omega
 ·obtain rfl:k=0:=by omega
  rw[Nat.pow_zero,Nat.div_one]at hqr
  have hd:a*n/of=q∧a*n%of=r:=by
   rw[←hqr,a0w q]
   exact⟨by rw[Nat.mul_add_div h0,Nat.div_eq_of_lt hr,H8],by rw[Nat.mul_add_mod,Nat.mod_eq_of_lt hr]⟩
  have wq:=b1I (n:=q) (by omega)
  refine Wf e10 hk0 e8 e9 wq ?_
  exact hK _ _ ⟨by rw[hd.1,hd.2],rfl⟩
end

def v9(sum all:Nat)(ws:List Nat):List Nat:=ws.map fun w=>sum*w/all
def D5(sum all:Nat)(ws:List Nat):List Nat:=ws.map fun w=>sum*w%all
theorem b2q(sum all:Nat)(ws:List Nat):sum*ws.sum=(v9 sum all ws).sum*all+(D5 sum all ws).sum:=by
 induction ws with
 |nil=>simp[v9,D5]
 |cons w ws ih=>
  simp only[v9,D5,G7,K1]at ih⊢
  have h:=Nat.div_add_mod (sum*w) all
  rw[a0w all]at h
  rw[Nat.mul_add,ih,R8]
  omega
theorem c2O(sum:Nat){all:Nat}(h:0<all)(ws:List Nat):(D5 sum all ws).sum+ws.length≤ws.length*all:=by
 induction ws with
 |nil=>simp[D5]
 |cons w ws ih=>
  simp only[D5,G7,K1,l_f]at ih⊢
  have h1:=Nat.mod_lt (sum*w) h
  rw[Nat.succ_mul]
  omega
theorem a2F{sum all:Nat}{ws:List Nat}(h:0<all)(he:ws.sum=all):(v9 sum all ws).sum≤sum∧sum-(v9 sum all ws).sum≤ws.length:=by
 have h1:=b2q sum all ws
 have h2:=c2O sum h ws
 rw[he]at h1
 have h3:(v9 sum all ws).sum*all≤sum*all:=by omega
 have h4:=Nat.le_of_mul_le_mul_right h3 h
 refine⟨h4,?_⟩
 obtain⟨d,hd⟩:∃d,sum=(v9 sum all ws).sum+d:=⟨sum-(v9 sum all ws).sum,by omega⟩
 have h5:d*all≤ws.length*all:=by
  rw[hd,R8]at h1
  rw[←hd]at h1
  omega
 have h6:=Nat.le_of_mul_le_mul_right h5 h
 omega
end Go.Proofs.YtjagmebglhbdkaaGreat.MX
