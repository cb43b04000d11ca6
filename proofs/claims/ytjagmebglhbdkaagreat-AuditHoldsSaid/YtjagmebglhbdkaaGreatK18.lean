import Derived.Test.YtjagmebglhbdkaaGreatK17
import Derived.Test.YtjagmebglhbdkaaGreatK13
namespace Go.Proofs.YtjagmebglhbdkaaGreat.MX
open Go Go.Proofs
set_option linter.unusedSimpArgs false
set_option linter.unusedVariables false
section
set_option maxHeartbeats 8000000
def Q4(n:Nat):List Int:=(List.range n).map Int.ofNat
def bump(q:List Int)(Z:List Int):List Int:=Z.foldl (fun l i=>l.set i.toNat (l.getD i.toNat 0+1)) q
def J8(sum all:Nat)(ws:List Nat)(out:List Int):Prop:=
 ∃Z:List Int,Z.Perm (Q4 ws.length)∧Z.Pairwise (Rk fun i=>(D5 sum all ws).getD i.toNat 0)∧
  out=bump ((v9 sum all ws).map Int.ofNat) (Z.take (sum-(v9 sum all ws).sum))
theorem a4U{α:Type}(T:List α)(x:α){n i:Nat}(hn:T.length=n)(hi:i<n):(T.take i++List.replicate (n-i) x).set i (T[i]'(by omega))=T.take (i+1)++List.replicate (n-(i+1)) x:=by
 have hl:(T.take i).length=i:=by rw[x4];omega
 rw[a6l _ _ (by omega),hl,Nat.sub_self,show n-i=(n-(i+1))+1 by omega,List.replicate_succ,l_h,l_t (by omega),l_q]
 rfl
theorem a8N(q Z:List Int)(z:Int):bump q (Z++ [z])=(bump q Z).set z.toNat ((bump q Z).getD z.toNat 0+1):=by simp[bump]
theorem a4l(Z:List Int):∀q:List Int,(bump q Z).length=q.length:=by
 induction Z with
 |nil=>intro q;rfl
 |cons z Z ih=>
  intro q
  have:bump q (z::Z)=bump (q.set z.toNat (q.getD z.toNat 0+1)) Z:=rfl
  rw[this,ih,T3]
theorem a7a{M:Int}(hM:0≤M)(Z:List Int):∀q:List Int,(∀x∈q,0≤x∧x≤M)→∀x∈bump q Z,0≤x∧x≤M+Z.length:=by
 induction Z generalizing M with
 |nil=>intro q h x hx;have:=h x hx;simp;omega
 |cons z Z ih=>
  intro q h x hx
  have e:bump q (z::Z)=bump (q.set z.toNat (q.getD z.toNat 0+1)) Z:=rfl
  rw[e]at hx
  have:=ih (M:=M+1) (by omega) (q.set z.toNat (q.getD z.toNat 0+1)) (fun y hy=>by
   rcases List.mem_or_eq_of_mem_set hy with hy|rfl
   ·have:=h y hy;omega
   ·rw[l_s]
    cases hg:q[z.toNat]? with
    |none=>simp;omega
    |some w=>
     have:=h w (List.mem_of_getElem? hg)
     simp;omega) x hx
  rw[l_f]
  omega
theorem a4F{k:Nat}:∀{l:List Nat},k∈l→k≤l.sum
 | [],h=>by cases h
 |x::l,h=>by
  rw[K1]
  rcases List.mem_cons.1 h with rfl|h
  ·omega
  ·have:=a4F h;omega
theorem a3j(n:Nat):(Q4 n).length=n:=by simp[Q4]
theorem a0A(sum all:Nat)(ws:List Nat):(v9 sum all ws).length=ws.length:=by simp[v9]
theorem a9B(sum all:Nat)(ws:List Nat):(D5 sum all ws).length=ws.length:=by simp[D5]
section
variable{h0 h:c9}{l:List HP}
theorem a8H{A:Option Addr}{c:Nat}(sum:Nat)(ws:List Nat)(ha:∀h',St h0 h' l→Arr i6 1 h' A (ws.map Int.ofNat))(hask:N3 sum (ws.map Int.ofNat)=0)(hall:0<ws.sum)(S:St h0 h l):
  d8 Tryz.prog 126 [.int .i64 sum,.slice A ws.length c] h fun v h'=>∃s out,v= .tuple #[s,.int .i64 0]∧J8 sum ws.sum ws out∧out.length=ws.length∧St h0 h' (i4 i6 1 2 s out::l):=by
 have hsumI:(ws.map Int.ofNat).sum=ws.sum:=by
  clear ha hask hall
  induction ws with
  |nil=>rfl
  |cons w ws ih=>rw[G7,K1,K1,ih];simp
 have hA0:a5h sum (ws.map Int.ofNat)=(ws.sum:Int):=by rw[a5h,if_pos hask,hsumI]
 have hb:ws.length≤200∧sum≤1125899906842624∧ws.sum≤1125899906842624∧∀w∈ws,w≤ws.sum:=by
  unfold N3 at hask
  split at hask
  ·cases hask
  ·rename_i h1
   split at hask
   ·cases hask
   ·rename_i h2
    rw[hsumI]at h2
    rw[l_z]at h1
    refine⟨by omega,by omega,by omega,?_⟩
    clear h1 h2 hask ha hA0 hsumI hall
    intro w hw
    induction ws with
    |nil=>cases hw
    |cons x ws ih=>
     rw[K1]
     rcases List.mem_cons.1 hw with rfl|hw
     ·omega
     ·have:=ih hw;omega
 obtain⟨hb1,hb2,hb3,hb4⟩:=hb
 have hall0:¬(ws.sum:Int)=0:=by omega
 have hl:=ha h S
 refine EN i126.eq_1 fun K hK=>Wa ?_
 have hlm:ws.length=(ws.map Int.ofNat).length:=(l_z _).symm
 rw[hlm]
 refine cI (a6W (sum:Int) hl (by rw[l_z];omega)) ?_
 rintro _ _ ⟨rfl,rfl⟩
 rw[hask,hA0,l_z]
 clear hl
 refine Wb hall0 ?_
 refine a0V (0:Int) zEl rfl S (by omega) (by omega) ?_
 clear S
 intro v h S
 obtain⟨Ao,co,rfl⟩:=S.sl
 rw[G4]at S⊢
 refine Wa ?_
 refine a0V (0:Nat) a4Z rfl S (by omega) (by omega) ?_
 clear S
 intro v h S
 obtain⟨Ar,cr,rfl⟩:=S.sl
 rw[G4]at S⊢
 refine Wa ?_
 (revert S;(try clear F);refine AL fun t9 h S F=> ?_)
 refine Wa ?_
 (revert S;(try clear F);refine ST fun h S F=> ?_)
 refine Wa ?_
 refine a0V (0:Int) zEl rfl S (by omega) (by omega) ?_
 clear S F
 intro v h S
 obtain⟨Ad,cd,rfl⟩:=S.sl
 rw[G4]at S⊢
 have hQl:=a0A sum ws.sum ws
 have hRl:=a9B sum ws.sum ws
 have hNl:=a3j ws.length
 refine Wa ?_
 refine lI (fun ρ' h'=>ρ' 6= .int .i64 ws.sum∧ρ' 0= .int .i64 sum∧ρ' 8= .slice Ao ws.length co∧ρ' 9= .pointer (some ⟨t9,0,none⟩)∧ρ' 10= .slice Ad ws.length cd∧ρ' 47= .slice A ws.length c∧ρ' 48= .int .i64 ws.length∧∃i:Nat,ρ' 49= .int .i64 i∧i≤ws.length∧ρ' 11= .int .i64 ((sum:Int)-((v9 sum ws.sum ws).take i).sum)∧
  St h0 h' (i4 i6 1 3 (.slice Ad ws.length cd) ((Q4 ws.length).take i++List.replicate (ws.length-i) 0)::d9 t9 [.slice Ar ws.length cr] 215::i4 a8f 1 216 (.slice Ar ws.length cr) ((D5 sum ws.sum ws).take i++List.replicate (ws.length-i) 0)::i4 i6 1 2 (.slice Ao ws.length co) (((v9 sum ws.sum ws).map Int.ofNat).take i++List.replicate (ws.length-i) 0)::l)) (fun ρ' _=>ws.length-(iv (ρ' 49)).toNat) ?_ ?_
 ·refine Wa ?_
  exact⟨0,rfl,by omega,by simp,by simpa using S⟩
 ·clear S
  rintro ρ h J hJ ⟨e6,e0,e8,e9,e10,e47,e48,i,e49,hi,e11,S⟩
  refine Wc e48 e49 ?_
  refine cD (fun hlt=> ?_) (fun hlt=> ?_)
  ·have hil:i<ws.length:=by omega
   obtain⟨bk,off,rfl,hr⟩:=ha h S.tl.tl.tl.tl i (by rw[l_z];exact hil)
   have hr:=rP hr 0 (by omega)
   simp only[i6,l_o,H8,Y9]at hr
   have hwm:=hb4 _ (l_v hil)
   generalize hw:ws[i]=w at hr hwm
   have hmul:sum*w≤1125899906842624*ws.sum:=Nat.mul_le_mul hb2 hwm
   have hhi:sum*w/18446744073709551616<ws.sum:=by
    rw[Nat.div_lt_iff_lt_mul (by decide)]
    have:1125899906842624*ws.sum<ws.sum*18446744073709551616:=by rw[a0w];exact Nat.mul_lt_mul_of_pos_left (by decide) hall
    omega
   have hback:sum*w/18446744073709551616*18446744073709551616+sum*w%18446744073709551616=sum*w:=by
    rw[a0w (sum*w/_)];exact Nat.div_add_mod _ _
   have ws1:=a1z (n:=sum) (by omega)
   have ww:=a1z (n:=w) (by omega)
   have wa:=a1z (n:=ws.sum) (by omega)
   have hqb:sum*w/ws.sum≤sum:=by
    apply Nat.le_of_mul_le_mul_right (c:=ws.sum) _ hall
    exact Z0 (Nat.div_mul_le_self _ _) (Nat.mul_le_mul_left _ hwm)
   have wq:=b1I (n:=sum*w/ws.sum) (by omega)
   rw[show Int.ofNat w=(w:Int)from rfl]at hr
   refine Wg e47 e49 e0 hr ws1 ww ?_
   refine cI (b0Y sum w (by omega) (by omega) _) ?_
   rintro _ _ ⟨rfl,rfl⟩
   refine Wc e6 wa ?_
   refine cI (b0V _ _ _ hhi (by omega) (Nat.mod_lt _ (by decide)) _) ?_
   rintro _ _ ⟨rfl,rfl⟩
   rw[hback]
   have hrd:=m8 (off:=0) S.p1
   simp only[l_o]at hrd
   have rx:∀K t,j8 (fun h'=>rd1 h' (.pointer (some ⟨t9,0,none⟩))=some (.slice Ar ws.length cr)) (fun h'=>rd1 h' (.pointer (some ⟨t9,0,none⟩))) K t=K (.slice Ar ws.length cr):=fun K t=>c2M _ hrd
   obtain⟨bd,rfl⟩:=S.ownAt (by simp only[l_m,G4];omega)
   obtain⟨br,rfl⟩:=S.p2.ownAt (by simp only[l_m,G4];omega)
   obtain⟨bo,rfl⟩:=S.p3.ownAt (by simp only[l_m,G4];omega)
   refine Wa ?_
   refine dI (fun h'=>rd1 h' (.pointer (some ⟨t9,0,none⟩))=some (.slice (some ⟨br,0,none⟩) ws.length cr)) hrd ?_
   refine Wf e8 e9 e10 rx wq ?_
   have hsz:∀{α:Type} (T:List α) (x:α),T.length=ws.length→i<(T.take i++List.replicate (ws.length-i) x).length:=fun T x hT=>by rw[l_m,x4,G4];omega
   refine v7 (i:=i) (x:=((sum*w/ws.sum:Nat):Int)) zEl S.p3 (hsz _ _ (by rw[l_z,hQl])) rfl rfl rfl rfl ?_
   clear S hrd rx hr
   intro h S
   refine⟨m8 S.p2,?_⟩
   refine Wa ?_
   refine v7 (i:=i) (x:=sum*w%ws.sum) a4Z S.p3 (hsz _ _ hRl) rfl rfl rfl rfl ?_
   clear S
   intro h S
   refine Wa ?_
   refine v7 (i:=i) (x:=(i:Int)) zEl S.p2 (hsz _ _ hNl) rfl rfl rfl rfl ?_
   clear S
   intro h S
   have hqi:((v9 sum ws.sum ws).map Int.ofNat)[i]'(by rw[l_z,hQl];exact hil)=((sum*w/ws.sum:Nat):Int):=by rw[Y9];simp only[v9,Y9,hw];rfl
   have hri:(D5 sum ws.sum ws)[i]'(by rw[hRl];exact hil)=sum*w%ws.sum:=by simp only[D5,Y9,hw]
   have hni:(Q4 ws.length)[i]'(by rw[hNl];exact hil)=(i:Int):=by simp only[Q4,Y9,List.getElem_range];rfl
   rw[←hni,a4U _ _ hNl hil]at S
   have S:=S.p2
   rw[←hri,a4U _ _ hRl hil]at S
   have S:=S.p3
   rw[←hqi,a4U _ _ (by rw[l_z,hQl]) hil]at S
   have hqn:(v9 sum ws.sum ws)[i]'(by rw[hQl];exact hil)=sum*w/ws.sum:=by simp only[v9,Y9,hw]
   have hts:((v9 sum ws.sum ws).take (i+1)).sum=((v9 sum ws.sum ws).take i).sum+sum*w/ws.sum:=by rw[l_t (by rw[hQl];exact hil),a2m,hqn];simp
   have htl:((v9 sum ws.sum ws).take (i+1)).sum≤(v9 sum ws.sum ws).sum:=by
    conv=>rhs;rw[←G0 (i+1) (v9 sum ws.sum ws),a2m]
    exact Nat.le_add_right _ _
   have hll:=(a2F hall (rfl:ws.sum=ws.sum) (sum:=sum)).1
   have wl:IntKind.i64.wrap ((sum:Int)-((v9 sum ws.sum ws).take i).sum-((sum*w/ws.sum:Nat):Int))=(sum:Int)-((v9 sum ws.sum ws).take (i+1)).sum:=by
    rw[hts,u5 (by omega) (by omega)]
    omega
   refine Wd e11 e49 wl ?_
   refine hJ _ _ ?_ ?_
   ·refine Wh e6 e0 e8 e9 e10 e47 e48 ?_
    refine⟨i+1,rfl,by omega,rfl,?_⟩
    (exact PM S)
   ·refine Wb e49 ?_
    omega
  ·obtain rfl:i=ws.length:=by omega
   obtain⟨hl1,hl2⟩:=a2F hall (rfl:ws.sum=ws.sum) (sum:=sum)
   simp only[Nat.sub_self,List.replicate_zero,D9]at S
   rw[a2E (by rw[hNl];exact x9 _),a2E (by rw[hRl];exact x9 _),a2E (by rw[l_z,hQl];exact x9 _)]at S
   rw[a2E (by rw[hQl];exact x9 _)]at e11
   refine Wc e10 e9 ?_
   have S1:St h0 h (i4 i6 1 3 (.slice Ad ws.length cd) (Q4 ws.length)::d9 t9 [.slice Ar (D5 sum ws.sum ws).length cr] 215::i4 a8f 1 216 (.slice Ar (D5 sum ws.sum ws).length cr) (D5 sum ws.sum ws)::i4 i6 1 2 (.slice Ao ws.length co) ((v9 sum ws.sum ws).map Int.ofNat)::l):=by
    rw[hRl];exact S
   refine cI (a8o b2X (by omega) (Q4 ws.length) hNl.symm ?_ ?_ S1) ?_
   ·unfold Q4
    rw[List.pairwise_map]
    exact List.pairwise_lt_range.imp fun h=>Int.ofNat_lt.2 h
   ·intro x hx
    simp only[Q4,List.mem_map,List.mem_range]at hx
    obtain⟨k,hk,rfl⟩:=hx
    rw[hRl]
    exact⟨Int.natCast_nonneg k,Int.ofNat_lt.2 hk⟩
   clear S S1
   rintro _ h ⟨Z,hz1,hz2,S⟩
   have hZl:Z.length=ws.length:=by rw[hz1.length_eq,hNl]
   have hZd:∀z∈Z,0≤z∧z<ws.length:=by
    intro z hz
    have:=hz1.mem_iff.1 hz
    simp only[Q4,List.mem_map,List.mem_range]at this
    obtain⟨k,hk,rfl⟩:=this
    exact⟨Int.natCast_nonneg k,Int.ofNat_lt.2 hk⟩
   obtain⟨lf,hlf⟩:∃lf,sum-(v9 sum ws.sum ws).sum=lf:=⟨_,rfl⟩
   rw[show(sum:Int)-((v9 sum ws.sum ws).sum:Nat)=(lf:Nat) by omega]at e11
   obtain⟨_,hcd,_⟩:=S.cap
   have hqd:∀x∈(v9 sum ws.sum ws).map Int.ofNat,0≤x∧x≤(sum:Int):=by
    intro x hx
    simp only[List.mem_map]at hx
    obtain⟨k,hk,rfl⟩:=hx
    have:=a4F hk
    show(0:Int)≤(k:Int)∧(k:Int)≤(sum:Int)
    omega
   refine Wd e10 e11 e8 ?_
   refine lI (fun ρ' h'=>ρ' 8= .slice Ao ws.length co∧ρ' 93= .slice Ad lf cd∧ρ' 94= .int .i64 lf∧∃j:Nat,ρ' 95= .int .i64 j∧j≤lf∧
    St h0 h' (i4 i6 1 2 (.slice Ao ws.length co) (bump ((v9 sum ws.sum ws).map Int.ofNat) (Z.take j))::i4 i6 1 3 (.slice Ad ws.length cd) Z::l)) (fun ρ' _=>lf-(iv (ρ' 95)).toNat) ?_ ?_
   ·refine Wb e8 ?_
    refine⟨0,rfl,by omega,?_⟩
    exact S.p1.tl.d1.p1
   ·clear S
    rintro ρ h J hJ ⟨e8,e93,e94,j,e95,hj,S⟩
    refine Wc e94 e95 ?_
    refine cD (fun hlt=> ?_) (fun hlt=> ?_)
    ·have hjl:j<lf:=by omega
     have hjZ:j<Z.length:=by omega
     obtain⟨bd,rfl⟩:=S.p1.ownAt (by omega)
     have hbl:(bump ((v9 sum ws.sum ws).map Int.ofNat) (Z.take j)).length=ws.length:=by rw[a4l,l_z,hQl]
     obtain⟨bo,rfl⟩:=S.ownAt (by omega)
     have hz:=F8 S.p1 (l_r hjZ)
     obtain⟨hz0,hzn⟩:=hZd _ (l_v hjZ)
     have htk:Z.take (j+1)=Z.take j++ [Z[j]]:=l_t hjZ
     generalize hzz:Z[j]=z at hz hz0 hzn htk
     obtain⟨k,rfl⟩:∃k:Nat,z=k:=⟨z.toNat,by omega⟩
     have hk:k<ws.length:=by omega
     have ho:=F8 S (l_r (i:=k) (by omega))
     have hbd:=a7a (by omega) (Z.take j) _ hqd _ (l_v (l:=bump ((v9 sum ws.sum ws).map Int.ofNat) (Z.take j)) (n:=k) (by omega))
     have hgd:(bump ((v9 sum ws.sum ws).map Int.ofNat) (Z.take j)).getD k 0=(bump ((v9 sum ws.sum ws).map Int.ofNat) (Z.take j))[k]'(by omega):=by rw[l_s,l_r (by omega)];rfl
     rw[x4]at hbd
     generalize hx:(bump ((v9 sum ws.sum ws).map Int.ofNat) (Z.take j))[k]'(by omega)=x at ho hbd hgd
     have w1:IntKind.i64.wrap (x+1)=x+1:=u5 (by omega) (by omega)
     refine Wg e93 e95 e8 hz ho w1 ?_
     refine v7 (i:=k) (x:=x+1) zEl S (by omega) rfl rfl rfl rfl ?_
     clear S
     intro h S
     refine Wb e95 ?_
     refine hJ _ _ ?_ ?_
     ·refine Wd e8 e93 e94 ?_
      refine⟨j+1,rfl,by omega,?_⟩
      rw[htk,a8N,K0,hgd]
      exact S
     ·refine Wb e95 ?_
      omega
    ·obtain rfl:j=lf:=by omega
     refine Wb e8 ?_
     refine hK _ _ ⟨_,_,rfl,⟨Z,hz1,hz2,rfl⟩,?_,?_⟩
     ·rw[a4l,l_z,hQl]
     ·rw[hlf]
      exact S.d1
end
end
theorem b0B{Kf:Int→Nat}{x y:Int}(h1:Rk Kf x y)(h2:Rk Kf y x):False:=by
 unfold Rk at h1 h2
 omega
theorem a9D{Kf:Int→Nat}:∀{Z Z':List Int},Z.Perm Z'→Z.Pairwise (Rk Kf)→Z'.Pairwise (Rk Kf)→Z=Z'
 | [],Z',hp,_,_=>(List.nil_perm.1 hp).symm
 |z::Z,[],hp,_,_=>by have:=hp.length_eq;simp at this
 |z::Z,y::Z',hp,h1,h2=>by
  rw[List.pairwise_cons]at h1 h2
  have hz:z=y:=by
   rcases List.mem_cons.1 (hp.mem_iff.1 (l_n ..))with h|h
   ·exact h
   ·rcases List.mem_cons.1 (hp.mem_iff.2 (l_n ..))with h'|h'
    ·exact h'.symm
    ·exact(b0B (h1.1 _ h') (h2.1 _ h)).elim
  subst hz
  rw[a9D (List.perm_cons _|>.1 hp) h1.2 h2.2]
theorem J8.unique{sum all:Nat}{ws:List Nat}{o1 o2:List Int}(h1:J8 sum all ws o1)(h2:J8 sum all ws o2):o1=o2:=by
 obtain⟨Z1,p1,s1,rfl⟩:=h1
 obtain⟨Z2,p2,s2,rfl⟩:=h2
 rw[a9D (p1.trans p2.symm) s1 s2]
theorem b1o(Z:List Int):∀q:List Int,Z.Nodup→(∀z∈Z,0≤z∧z<q.length)→∀i,i<q.length→(bump q Z).getD i 0=q.getD i 0+if(i:Int)∈Z then 1 else 0:=by
 induction Z with
 |nil=>intro q _ _ i _;simp[bump]
 |cons z Z ih=>
  intro q hn hd i hi
  rw[List.nodup_cons]at hn
  have hz:=hd z (by simp)
  have e:bump q (z::Z)=bump (q.set z.toNat (q.getD z.toNat 0+1)) Z:=rfl
  rw[e,ih _ hn.2 (fun y hy=>by rw[T3];exact hd y (by simp[hy])) i (by rw[T3];exact hi)]
  by_cases hiz:z=(i:Int)
  ·subst hiz
   have:(q.set (i:Int).toNat (q.getD (i:Int).toNat 0+1)).getD i 0=q.getD i 0+1:=by
    rw[K0,l_s,List.getElem?_set_self hi];rfl
   rw[this,if_neg hn.1,if_pos (by simp)]
   omega
  ·have:(q.set z.toNat (q.getD z.toNat 0+1)).getD i 0=q.getD i 0:=by
    rw[l_s,List.getElem?_set_ne (by omega),←l_s]
   rw[this]
   have e:((i:Int)∈z::Z)↔((i:Int)∈Z):=by
    rw[l_e]
    constructor
    ·rintro(h|h)
     ·exact(hiz h.symm).elim
     ·exact h
    ·exact .inr
   simp only[e]
theorem b5G:∀(q:List Int) (k:Nat),k<q.length→(q.set k (q.getD k 0+1)).sum=q.sum+1
 | [],k,h=>by simp at h
 |x::q,0,h=>by simp;omega
 |x::q,k+1,h=>by
  have:=b5G q k (by simpa using h)
  simp only[l_i,K1,List.getD_cons_succ,this]
  omega
theorem b8q(Z:List Int):∀q:List Int,(∀z∈Z,0≤z∧z<q.length)→(bump q Z).sum=q.sum+Z.length:=by
 induction Z with
 |nil=>intro q _;simp[bump]
 |cons z Z ih=>
  intro q hd
  have hz:=hd z (by simp)
  have e:bump q (z::Z)=bump (q.set z.toNat (q.getD z.toNat 0+1)) Z:=rfl
  rw[e,ih _ (fun y hy=>by rw[T3];exact hd y (by simp[hy])),b5G q _ (by omega),l_f]
  omega
theorem a0j{n:Nat}{z:Int}:z∈Q4 n↔0≤z∧z<n:=by
 simp only[Q4,List.mem_map,List.mem_range]
 constructor
 ·rintro⟨k,hk,rfl⟩
  exact⟨Int.natCast_nonneg k,Int.ofNat_lt.2 hk⟩
 ·rintro⟨h1,h2⟩
  exact⟨z.toNat,by omega,by show((z.toNat:Nat):Int)=z;omega⟩
theorem Y3(n:Nat):(Q4 n).Nodup:=by
 unfold Q4 List.Nodup
 rw[List.pairwise_map]
 exact List.nodup_range.imp fun h e=>h (Int.ofNat_inj.1 e)
theorem b0J(l:List Nat):(l.map Int.ofNat).sum=(l.sum:Int):=by
 induction l with
 |nil=>rfl
 |cons w ws ih=>rw[G7,K1,K1,ih];simp
theorem J8.law{sum all:Nat}{ws:List Nat}{out:List Int}(H:J8 sum all ws out)(hall:0<all)(he:ws.sum=all):
  out.length=ws.length∧out.sum=sum∧(∀i (hi:i<ws.length),out.getD i 0=((sum*ws[i]/all:Nat):Int)∨out.getD i 0=((sum*ws[i]/all:Nat):Int)+1)∧
   ∀i k (hi:i<ws.length) (hk:k<i),ws[k]=ws[i]→out.getD k 0=out.getD i 0∨out.getD k 0=out.getD i 0+1:=by
 obtain⟨Z,hp,hs,rfl⟩:=H
 obtain⟨hl1,hl2⟩:=a2F hall he (sum:=sum)
 have hZl:Z.length=ws.length:=by rw[hp.length_eq,a3j]
 have hql:((v9 sum all ws).map Int.ofNat).length=ws.length:=by rw[l_z,a0A]
 have hZd:∀z∈Z,0≤z∧z<(((v9 sum all ws).map Int.ofNat).length:Int):=fun z hz=>by rw[hql];exact a0j.1 (hp.mem_iff.1 hz)
 have hZn:Z.Nodup:=hp.nodup_iff.2 (Y3 _)
 have htd:∀z∈Z.take (sum-(v9 sum all ws).sum),0≤z∧z<(((v9 sum all ws).map Int.ofNat).length:Int):=fun z hz=>hZd z (a1O hz)
 have hg:=b1o _ _ (hZn.sublist (List.take_sublist (sum-(v9 sum all ws).sum) Z)) htd
 have hq:∀i (hi:i<ws.length),((v9 sum all ws).map Int.ofNat).getD i 0=((sum*ws[i]/all:Nat):Int):=fun i hi=>by
  rw[l_s,l_r (by rw[hql];exact hi)]
  simp only[v9,Y9]
  rfl
 refine⟨by rw[a4l,hql],?_,?_,?_⟩
 ·rw[b8q _ _ htd,x4,b0J]
  omega
 ·intro i hi
  rw[hg i (by rw[hql];exact hi),hq i hi]
  split
  ·exact .inr rfl
  ·exact .inl (by omega)
 ·intro i k hi hk hw
  have hk':k<ws.length:=by omega
  rw[hg i (by rw[hql];exact hi),hq i hi,hg k (by rw[hql];exact hk'),hq k hk',hw]
  have hrk:Rk (fun i=>(D5 sum all ws).getD i.toNat 0) (k:Int) (i:Int):=by
   refine .inr ⟨?_,by omega⟩
   simp only[K0,D5,l_s,a0H,l_r hi,l_r hk',hw]
  have him:∀j:Nat,j<ws.length→(j:Int)∈Z:=fun j hj=>hp.mem_iff.2 (a0j.2 ⟨by omega,by omega⟩)
  have hkk:(i:Int)∈Z.take (sum-(v9 sum all ws).sum)→(k:Int)∈Z.take (sum-(v9 sum all ws).sum):=fun hm=>by
   have hz:=him k hk'
   rw[←G0 (sum-(v9 sum all ws).sum) Z]at hz hs
   rcases List.mem_append.1 hz with hz|hz
   ·exact hz
   ·exact(b0B hrk ((List.pairwise_append.1 hs).2.2 _ hm _ hz)).elim
  by_cases c1:(i:Int)∈Z.take (sum-(v9 sum all ws).sum)
  ·rw[if_pos c1,if_pos (hkk c1)]
   exact .inl rfl
  ·rw[if_neg c1]
   split
   ·exact .inr (by omega)
   ·exact .inl rfl
theorem c2v{Kf:Int→Nat}{Z:List Int}{n j:Nat}(hp:Z.Perm (Q4 n))(hs:Z.Pairwise (Rk Kf))(hj:j<Z.length){b:Int}(hb:0≤b∧b<n)(hb1:b∉Z.take j)(hb2:∀x:Int,0≤x→x<n→x∉Z.take j→x=b∨Rk Kf b x):Z[j]=b:=by
 have hz:Z[j]∈Z:=l_v hj
 have hd:=a0j.1 (hp.mem_iff.1 hz)
 have hZn:Z.Nodup:=hp.nodup_iff.2 (Y3 _)
 have hsp:Z=Z.take j++Z[j]::Z.drop (j+1):=by rw[←X8 hj,G0]
 have hnt:Z[j]∉Z.take j:=fun hm=>by
  rw[hsp]at hZn
  exact(List.nodup_append.1 hZn).2.2 _ hm _ (l_n ..) rfl
 rcases hb2 _ hd.1 hd.2 hnt with h|h
 ·exact h
 ·have hbz:=hp.mem_iff.2 (a0j.2 hb)
  rw[hsp]at hbz hs
  rcases List.mem_append.1 hbz with hm|hm
  ·exact(hb1 hm).elim
  ·rcases List.mem_cons.1 hm with hm|hm
   ·exact hm.symm
   ·have:=(List.pairwise_cons.1 (List.pairwise_append.1 hs).2.1).1 _ hm
    exact(b0B this h).elim
section
set_option maxHeartbeats 8000000
theorem a0E:∀n:Nat,(List.replicate n 1).sum=n
 |0=>rfl
 |n+1=>by rw[List.replicate_succ,K1,a0E n];omega
def J3(ws:List Int):List Nat:=if ws.sum=0 then List.replicate ws.length 1 else ws.map Int.toNat
theorem b6l{sum:Int}{ws:List Int}(h:N3 sum ws=0):0<ws.length∧ws.length≤200∧(∀w∈ws,a3N w)∧0≤sum∧sum≤1125899906842624∧0≤ws.sum∧ws.sum≤1125899906842624:=by
 unfold N3 at h
 split at h
 ·cases h
 ·rename_i h1
  split at h
  ·cases h
  ·rename_i h2
   have hf:∀w∈ws,a3N w:=Classical.byContradiction fun hn=>h1 (.inr (.inr hn))
   have:=a3r hf
   exact⟨by omega,by omega,hf,by omega,by omega,by omega,by omega⟩
theorem W9{ws:List Int}(h:∀w∈ws,a3N w):(ws.map Int.toNat).map Int.ofNat=ws:=by
 rw[List.map_map]
 conv=>rhs;rw[←List.map_id ws]
 refine List.map_congr_left fun w hw=> ?_
 have:=h w hw
 unfold a3N at this
 show((w.toNat:Nat):Int)=w
 omega
theorem a7j(ws:List Int):(J3 ws).length=ws.length:=by
 unfold J3
 split
 ·rw[G4]
 ·rw[l_z]
theorem a7k{sum:Int}{ws:List Int}(h:N3 sum ws=0):0<(J3 ws).sum∧(J3 ws).sum≤1125899906842624:=by
 obtain⟨h1,h2,h3,h4,h5,h6,h7⟩:=b6l h
 unfold J3
 split
 ·rw[a0E];omega
 ·have:=b0J (ws.map Int.toNat)
  rw[W9 h3]at this
  omega
theorem b8l{sum:Int}{n:Nat}(h1:0<n)(h2:n≤200):N3 sum (List.replicate n 1)=if sum<0∨1125899906842624<sum then 9 else 0:=by
 have hs:(List.replicate n (1:Int)).sum=n:=by
  have:=b0J (List.replicate n 1)
  rw[a0E,List.map_replicate]at this
  exact this
 unfold N3
 rw[G4,if_neg (by
  rintro(h|h|h)
  ·omega
  ·omega
  ·refine h fun w hw=> ?_
   rw[List.mem_replicate]at hw
   rw[hw.2]
   exact⟨by decide,by decide⟩),hs]
 by_cases hc:sum<0∨1125899906842624<sum
 ·rw[if_pos (by omega),if_pos hc]
 ·rw[if_neg (by omega),if_neg hc]
section
variable{h0 h:c9}{l:List HP}
theorem a6N{A:Option Addr}{c:Nat}(sum:Int){ws:List Int}(ha:Arr i6 1 h A ws)(hl:ws.length<1000000000)(hask:N3 sum ws≠0):
  d8 Tryz.prog 126 [.int .i64 sum,.slice A ws.length c] h fun v h'=>v= .tuple #[.slice none 0 0,.int .i64 (N3 sum ws)]∧h'=h:=by
 refine EN i126.eq_1 fun K hK=>Wa ?_
 refine cI (a6W sum ha hl) ?_
 rintro _ _ ⟨rfl,rfl⟩
 refine Wb hask ?_
 exact hK _ _ ⟨rfl,rfl⟩
def ShP(h0 h':c9)(l:List HP)(sum:Int)(ws:List Int)(v:Value):Prop:=
 (N3 sum ws≠0∧v= .tuple #[.slice none 0 0,.int .i64 (N3 sum ws)]∧St h0 h' l)∨
 (N3 sum ws=0∧∃s out,v= .tuple #[s,.int .i64 0]∧J8 sum.toNat (J3 ws).sum (J3 ws) out∧out.length=ws.length∧St h0 h' (i4 i6 1 2 s out::l))
theorem c1n(sum:Int)(n:Nat)(hn1:0<n)(hn2:n≤200)(S:St h0 h l):
  d8 Tryz.prog 182 [.int .i64 sum,.int .i64 n] h fun v h'=>ShP h0 h' l sum (List.replicate n 1) v:=by
 have c1:¬(n:Int)<1:=by omega
 have c2:¬(200:Int)<n:=by omega
 refine EN i182.eq_1 fun K hK=> ?_
 refine Wc c1 c2 ?_
 refine a0V (0:Int) zEl rfl S (by omega) (by omega) ?_
 clear S
 intro v h S
 obtain⟨A,c,rfl⟩:=S.sl
 rw[G4]at S⊢
 obtain⟨b,rfl⟩:=S.ownAt (by rw[G4];omega)
 refine Wa ?_
 refine lI (fun ρ' h'=>ρ' 0= .int .i64 sum∧ρ' 6= .slice (some ⟨b,0,none⟩) n c∧ρ' 17= .int .i64 n∧∃i:Nat,ρ' 18= .int .i64 i∧i≤n∧
  St h0 h' (i4 i6 1 2 (.slice (some ⟨b,0,none⟩) n c) ((List.replicate n 1).take i++List.replicate (n-i) 0)::l)) (fun ρ' _=>n-(iv (ρ' 18)).toNat) ?_ ?_
 ·refine Wa ?_
  exact⟨0,rfl,by omega,S⟩
 clear S
 rintro ρ h J hJ ⟨e0,e6,e17,i,e18,hi,S⟩
 refine Wc e17 e18 ?_
 refine cD (fun hlt=> ?_) (fun hlt=> ?_)
 ·have hil:i<n:=by omega
  refine Wc e18 e6 ?_
  refine v7 (i:=i) (x:=1) zEl S (by rw[l_m,x4,G4,G4];omega) rfl rfl rfl rfl ?_
  clear S
  intro h S
  refine Wb e18 ?_
  refine hJ _ _ ?_ ?_
  ·refine Wd e0 e6 e17 ?_
   refine⟨i+1,rfl,by omega,?_⟩
   have:=a4U (List.replicate n (1:Int)) 0 (G4 ..) hil
   rw[List.getElem_replicate]at this
   rw[this]at S
   exact S
  ·refine Wb e18 ?_
   omega
 ·obtain rfl:i=n:=by omega
  rw[Nat.sub_self,List.replicate_zero,D9,a2E (by rw[G4];exact x9 _)]at S
  have harr:=S.arr zEl
  have hln:(List.replicate i (1:Int)).length=i:=G4 ..
  by_cases hask:N3 sum (List.replicate i 1)=0
  ·obtain⟨_,_,_,hs0,hs1,_,_⟩:=b6l hask
   obtain⟨k,rfl⟩:∃k:Nat,sum=k:=⟨sum.toNat,by omega⟩
   have hmap:(List.replicate i 1).map Int.ofNat=List.replicate i (1:Int):=List.map_replicate
   have hsh:=a8H (h0:=h0) (h:=h) (A:=some ⟨b,0,none⟩) (c:=c) (l:=i4 i6 1 2 (.slice (some ⟨b,0,none⟩) i c) (List.replicate i 1)::l) k (List.replicate i 1) (fun h' S=>by rw[hmap];exact S.arr zEl) (by rw[hmap];exact hask) (by rw[a0E];exact hn1) S
   rw[G4]at hsh
   refine Wc e0 e6 ?_
   refine cI hsh ?_
   clear S hsh harr
   rintro _ h ⟨s,out,rfl,hI,ho,S⟩
   refine Wa ?_
   refine hK _ _ (.inr ⟨hask,s,out,rfl,?_,by rw[hln];exact ho,S.d1⟩)
   have he:J3 (List.replicate i 1)=List.replicate i 1:=by
    have hsm:=b0J (List.replicate i 1)
    rw[hmap,a0E]at hsm
    unfold J3
    rw[if_neg (by omega),List.map_replicate]
    rfl
   rw[he,K0]
   exact hI
  ·have hsh:=a6N (c:=c) sum harr (by omega) hask
   rw[G4]at hsh
   refine Wc e0 e6 ?_
   refine cI hsh ?_
   rintro _ h ⟨rfl,rfl⟩
   refine Wa ?_
   exact hK _ _ (.inl ⟨hask,rfl,S.tl⟩)
theorem b2W{A:Option Addr}{c:Nat}(sum:Int)(ws:List Int)(ha:∀h',St h0 h' l→Arr i6 1 h' A ws)(hl:ws.length<1000000000)(S:St h0 h l):
  d8 Tryz.prog 126 [.int .i64 sum,.slice A ws.length c] h fun v h'=>ShP h0 h' l sum ws v:=by
 by_cases hask:N3 sum ws=0
 case neg=>
  refine(a6N sum (ha h S) hl hask).mono ?_
  rintro v h' ⟨rfl,rfl⟩
  exact .inl ⟨hask,rfl,S⟩
 obtain⟨hw0,hw1,hf,hs0,hs1,hs2,hs3⟩:=b6l hask
 by_cases hall:ws.sum=0
 ·have hA0:a5h sum ws=0:=by rw[a5h,if_pos hask,hall]
  refine EN i126.eq_1 fun K hK=>Wa ?_
  refine cI (a6W sum (ha h S) hl) ?_
  rintro _ _ ⟨rfl,rfl⟩
  rw[hask,hA0]
  refine Wa ?_
  refine cI (c1n sum ws.length hw0 hw1 S) ?_
  clear S
  have ho:N3 sum (List.replicate ws.length 1)=0:=by
   rw[b8l hw0 hw1,if_neg (by omega)]
  rintro _ h (⟨hn,_⟩|⟨_,s,out,rfl,hI,hlo,S⟩)
  ·exact(hn ho).elim
  refine Wa ?_
  refine hK _ _ (.inr ⟨hask,s,out,rfl,?_,by rw[hlo,G4],S⟩)
  have he:J3 (List.replicate ws.length 1)=J3 ws:=by
   have hmap:(List.replicate ws.length 1).map Int.ofNat=List.replicate ws.length (1:Int):=List.map_replicate
   have hsm:=b0J (List.replicate ws.length 1)
   rw[hmap,a0E]at hsm
   unfold J3
   rw[if_neg (by omega),if_pos hall,List.map_replicate]
   rfl
  rw[←he]
  exact hI
 ·have hbk:=W9 hf
  obtain⟨k,rfl⟩:∃k:Nat,sum=k:=⟨sum.toNat,by omega⟩
  have hsum:=b0J (ws.map Int.toNat)
  rw[hbk]at hsum
  have hsh:=a8H (h0:=h0) (h:=h) (A:=A) (c:=c) (l:=l) k (ws.map Int.toNat) (by rw[hbk];exact ha) (by rw[hbk];exact hask) (by omega) S
  rw[l_z]at hsh
  refine hsh.mono ?_
  rintro v h' ⟨s,out,rfl,hI,hlo,S⟩
  refine .inr ⟨hask,s,out,rfl,?_,hlo,S⟩
  have he:J3 ws=ws.map Int.toNat:=by unfold J3;rw[if_neg hall]
  rw[he]
  exact hI
end
end
section
set_option maxHeartbeats 8000000
section
variable{h:c9}
theorem b7U(a n of:Nat)(ha:a≤1125899906842624)(hn:n≤of)(h0:0<of)(hof:of≤1125899906842624)(h:c9):
  d8 Tryz.prog 213 [.int .i64 a,.int .i64 n,.int .i64 of] h fun v h'=>v= .tuple #[.int .i64 (a*n/of:Nat),.int .i64 0]∧h'=h:=by
 have c1:¬(a:Int)<0:=by omega
 have c2:¬(1125899906842624:Int)<a:=by omega
 have c3:¬(of:Int)<1:=by omega
 have c4:¬(n:Int)<0:=by omega
 have c5:¬(of:Int)<n:=by omega
 refine EN i213.eq_1 fun K hK=> ?_
 refine Wf c1 c2 c3 c4 c5 ?_
 refine cI (a7h a n of ha hn h0 hof _) ?_
 rintro _ _ ⟨rfl,rfl⟩
 refine Wa ?_
 exact hK _ _ ⟨rfl,rfl⟩
end
end

end Go.Proofs.YtjagmebglhbdkaaGreat.MX
