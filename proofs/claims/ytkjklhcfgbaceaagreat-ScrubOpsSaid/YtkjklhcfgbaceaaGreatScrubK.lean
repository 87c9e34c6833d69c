/- A part of the proof. -/
import Derived.Test.YtkjklhcfgbaceaaGreatScrubJ
open Go.Proofs.Tryz renaming prog→k0q
open Int renaming toNat_natCast→k0u
open Nat renaming le_refl→k1v
open List renaming length_replicate→k2z
set_option maxHeartbeats 16000000
set_option maxRecDepth 20000
namespace Go.Proofs.YtkjklhcfgbaceaaGreat.AL
open Go Go.Proofs
theorem q4e {α:Type}{X Y:List α}(h:X.length=Y.length):U0 X 0 Y=Y:=by
 unfold U0
 rw[List.take_zero,List.nil_append,Nat.zero_add,List.drop_eq_nil_of_le (by omega),List.append_nil]
def sw (c p i:Nat):Nat:=match Nat.beq i c with|true=>1+p|false=>match Nat.beq i p with|true=>1+c|false=>1+i
theorem x4n (M:U5)(c p:Nat):swp M c p c=M p:=by unfold swp;rw[Nat.beq_refl]
theorem v5k (a0:x9)(hA:∀ s∈([a0]:List x9),s.length=1)(hok:y2f 1 [a0]=true) :
 AF k0q z0e [.p (.sl 1 (w9 [a0]))] [] (Q9 (.tup [.p (.sl 1 (w9 [(gs 1 [a0] 1).2 0])),i64 0]) []):=by
 have hlen:=y2g hok rfl hA
 refine x1e (M:=(gs 1 [a0] 1).2) (n:=1) (hlen 1 (k1v _)).2 ?_
 have hpiv:=fun(c:Nat) (hc:c<1)=>z5v hc (z9w hok hc)
 have wA:=q0i [a0] 1 (show 1≤1 by decide) (show 1≤64 by decide) (by decide) (by decide) hA
 have ha0:a0.length=1:=hA a0 (by simp)
 have hx0:=Z1 a0
 have hstep:∀ c,gs 1 [a0] (c+1)=q3i 1 c (gs 1 [a0] c):=fun _=>rfl
 have hg0:gs 1 [a0] 0=gs0 1 [a0]:=rfl
 generalize gs 1 [a0]=g at hlen hpiv hstep hg0 ⊢
 have wn:=q4p
 have wo:=x8h
 have winv:=y7g
 have wtm:=fun(t:x9) (x:UInt8) (ht:t.length=1)=>z5s t x (by omega)
 have wad:=fun(to row:x9) (x:UInt8) (ht:to.length=1) (hr:row.length=1)=>z9v to row x (by omega) (by omega)
 unfold q3x at wn winv wtm wad
 generalize fP=F at wn winv wtm wad
 refine Q8 hT Tryz.func175 rfl rfl Tryz.ntmps175 rfl ?_
 refine y6 hT ?_
 refine u0 ⟨⟨166,[(0,.p (.sl 1 (w9 [a0])))]⟩,[]⟩ True (y6 hT ?_) (fun _=>?_)
 ·refine Q1 (Q5 wA _ rfl rfl) ?_
  refine⟨by decide,Z2 rfl ?_⟩
  refine y8 (u9 (fun h=>?_) (fun h=>?_))
  ·have h:((((bx a0).length:Nat):Int) != ((1:Nat):Int))=true:=h
   rw[bne_iff_ne]at h
   omega
  exact x7 ⟨z8 [] [0] rfl,trivial⟩
 refine y6 hT ?_
 refine Q1 (Q5 wn _ rfl rfl) ?_
 refine u0 ⟨⟨166,[(0,.p (.sl 1 (w9 [a0]))),(4,.p (.box F)),(5,.msl 0 1 0 1)]⟩,[.cells y9 [.p (.raw (.slice none 0 0))]]⟩ True (y7 hT ?_) (fun _=>?_)
 ·refine⟨⟨rfl,(show (0:Int)≤((1:Nat):Int) by decide),(show ((1:Nat):Int)*24≤140737488355328 by decide),(show ((1:Nat):Int)≤140737488355328 by decide)⟩,?_⟩
  exact⟨Wk.trans (q0k 0 [.raw (.slice none 0 0)] rfl rfl (by decide)) (z8 [0] [0,4,5] rfl),trivial⟩
 refine u0 ⟨⟨166,[(0,.p (.sl 1 (w9 [a0]))),(4,.p (.box F)),(5,.msl 0 1 0 1)]⟩,[.cells y9 [.msl 1 1 0 1],.row x6 1 (bx a0)]⟩ True (y6 hT ?_) (fun _=>?_)
 ·refine x3 ?_
  refine Q3 (fun n s=>(n=1∧s=⟨⟨166,[(0,.p (.sl 1 (w9 [a0]))),(4,.p (.box F)),(5,.msl 0 1 0 1),(32,.p (.sl 1 (w9 [a0]))),(33,i64 1),(34,i64 0)]⟩,[.cells y9 [.p (.raw (.slice none 0 0))]]⟩)∨(n=0∧s=⟨⟨166,[(0,.p (.sl 1 (w9 [a0]))),(4,.p (.box F)),(5,.msl 0 1 0 1),(32,.p (.sl 1 (w9 [a0]))),(33,i64 1),(34,i64 1)]⟩,[.cells y9 [.msl 1 1 0 1],.row x6 1 (bx a0)]⟩)) 1 ⟨⟨166,_⟩,_⟩ (z8 [0] [0,4,5,32,33,34] rfl) (.inl ⟨rfl,rfl⟩) ?_
  rintro n s (⟨rfl,rfl⟩|⟨rfl,rfl⟩)
  ·refine y6 hT ?_
   refine u6 (y8 ?_)
   refine x7 ?_
   refine Q4 (fun st=>∃ Y,Y=bx a0∧st=⟨⟨166,[(0,.p (.sl 1 (w9 [a0]))),(4,.p (.box F)),(5,.msl 0 1 0 1),(32,.p (.sl 1 (w9 [a0]))),(33,i64 1),(34,i64 0)]⟩,[.cells y9 [.msl 1 1 0 1],.row x6 1 (Y)]⟩) (x3 ?_) ?_
   ·refine y6 hT ?_
    refine⟨by decide,Z2 rfl ?_⟩
    refine Q4 (fun st=>∃ (m:Nat) (X:List (List PV)),m=1∧X.length=1∧st=⟨⟨166,[(0,.p (.sl 1 (w9 [a0]))),(4,.p (.box F)),(5,.msl 0 1 0 1),(32,.p (.sl 1 (w9 [a0]))),(33,i64 1),(34,i64 0),(6,i64 0),(7,bA a0)]⟩,[.cells y9 [.msl 1 1 0 m],.row x6 1 (X)]⟩) (y7 hT ?_) ?_
    ·refine⟨⟨rfl,by omega,by show (((bx a0).length:Nat):Int)*1≤_;omega,by omega⟩,?_⟩
     refine⟨by decide,?_⟩
     exact⟨_,z8 [0,1] [0,4,5,32,33,34,6,7] rfl,_,_,(by rw[k0u];omega),(by rw[k2z,k0u];omega),rfl⟩
    rintro _ ⟨m,X,rfl,hX,rfl⟩
    refine y7 hT ?_
    refine⟨by decide,?_⟩
    refine⟨⟨by omega,by omega⟩,?_⟩
    refine⟨_,z8 [0,1] [0,4,5,32,33,34] rfl,_,?_,rfl⟩
    exact q4e (by omega)
   ·rintro _ ⟨Y,rfl,rfl⟩
    refine y7 hT ?_
    exact⟨0,by decide,_,z8 [0,1] [0,4,5,32,33,34] rfl,(.inr ⟨rfl,rfl⟩)⟩
  ·refine y6 hT ?_
   refine u6 (y8 ?_)
   refine Q7 ?_
   exact⟨z8 [0,1] [0,4,5] rfl,trivial⟩
 refine u0 ⟨⟨166,[(4,.p (.box F)),(5,.msl 0 1 0 1),(8,.msl 2 1 0 1)]⟩,[.cells y9 [.msl 1 1 0 1],.row x6 1 (bx ((g 0).1 0)),.cells y9 [.msl 3 1 0 1],.row x6 1 (bx ((g 0).2 0))]⟩ True (y7 hT ?_) (fun _=>?_)
 ·refine Q1 (q1h wo _ rfl) ?_
  rw[hg0]
  exact⟨z8 [0,1,2,3] [4,5,8] rfl,trivial⟩
 refine u0 ⟨⟨166,[(8,.msl 0 1 0 1)]⟩,[.cells y9 [.msl 1 1 0 1],.row x6 1 (bx ((g 1).2 0))]⟩ True (y6 hT ?_) (fun _=>?_)
 ·refine x3 ?_
  refine Q3 (fun n s=>∃ (c:Nat) (jc:Int) (M N:U5),n+c=1∧jc=c∧g c=(M,N)∧s=⟨⟨166,[(4,.p (.box F)),(5,.msl 0 1 0 1),(8,.msl 2 1 0 1),(59,i64 1),(60,i64 jc)]⟩,[.cells y9 [.msl 1 1 0 1],.row x6 1 (bx (M 0)),.cells y9 [.msl 3 1 0 1],.row x6 1 (bx (N 0))]⟩) 1 ⟨⟨166,_⟩,_⟩ (z8 [0,1,2,3] [4,5,8,59,60] rfl) ⟨0,0,(g 0).1,(g 0).2,rfl,rfl,rfl,rfl⟩ ?_
  rintro n s ⟨c,jc,M,N,hnc,hjc,hMN,rfl⟩
  refine y6 hT ?_
  refine u6 (y8 (u9 (fun h=>?_) (fun h=>?_)))
  ·have h:=k0z (show decide (jc<((1:Nat):Int))=true from h)
   refine x7 ?_
   subst hjc
   have hcr:c<1:=by omega
   have hc4:c=0:=by omega
   obtain⟨p,p1,p2,p3,p4⟩:=hpiv c hcr
   obtain⟨l1,l2⟩:=hlen c (Nat.le_of_lt hcr)
   have hs:=hstep c
   rw[hMN]at p1 p4 l1 l2 hs
   let C:=c
   have hC:C<1:=hcr
   have l1:J2 1 M:=l1
   have l2:J2 1 N:=l2
   have p1:q2c M 1 C=p:=p1
   have p2:C≤p:=p2
   have p4:(M p).getD C 0≠0:=p4
   have hs:g (C+1)=q3i 1 C (M,N):=hs
   have wp:=w3h M l1 C hC
   rw[p1]at wp
   clear hMN
   refine Q4 (fun st=>∃ M' N',g (C+1)=(M',N')∧st=⟨⟨166,[(4,.p (.box F)),(5,.msl 0 1 0 1),(8,.msl 2 1 0 1),(59,i64 1),(60,i64 C)]⟩,[.cells y9 [.msl 1 1 0 1],.row x6 1 (bx (M' 0)),.cells y9 [.msl 3 1 0 1],.row x6 1 (bx (N' 0))]⟩) (x3 ?_) ?_
   ·rcases hc4 with rfl
    all_goals
     refine y6 hT ?_
     refine u0 ⟨⟨166,[(4,.p (.box F)),(5,.msl 0 1 0 1),(8,.msl 2 1 0 1),(59,i64 1),(10,i64 C),(60,i64 C),(11,i64 p)]⟩,[.cells y9 [.msl 1 1 0 1],.row x6 1 (bx (M 0)),.cells y9 [.msl 3 1 0 1],.row x6 1 (bx (N 0))]⟩ True (y7 hT ?_) (fun _=>?_)
     ·refine Q1 (Z7 [0,1] wp rfl rfl rfl) ?_
      exact⟨z8 [0,1,2,3] [4,5,8,59,10,60,11] rfl,trivial⟩
     refine u0 ⟨⟨166,[(4,.p (.box F)),(5,.msl 0 1 0 1),(8,.msl 2 1 0 1),(59,i64 1),(10,i64 C),(60,i64 C),(11,i64 p)]⟩,[.cells y9 [.msl 1 1 0 1],.row x6 1 (bx (M 0)),.cells y9 [.msl 3 1 0 1],.row x6 1 (bx (N 0))]⟩ True (y6 hT ?_) (fun _=>?_)
     ·refine y8 ?_
      exact x7 ⟨z8 [0,1,2,3] [4,5,8,59,10,60,11] rfl,trivial⟩
     have hp:p=0:=by omega
     refine Q4 (fun st=>∃ M1,M1=swp M C p∧st=⟨⟨166,[(4,.p (.box F)),(5,.msl 0 1 0 1),(8,.msl 2 1 0 1),(59,i64 1),(10,i64 C),(60,i64 C),(11,i64 p)]⟩,[.cells y9 [.msl 1 1 0 1],.row x6 1 (bx (M1 0)),.cells y9 [.msl 3 1 0 1],.row x6 1 (bx (N 0))]⟩) ?_ ?_
     ·let P:=p
      rcases hp with rfl
      all_goals
       refine Z0 [13,15] [] hT u7 (by rfl) ?_
       refine⟨by omega,?_⟩
       refine⟨by omega,?_⟩
       refine⟨by omega,?_⟩
       refine⟨by omega,?_⟩
       repeat first|refine⟨rfl,?_⟩|refine⟨⟨by omega,rfl⟩,?_⟩
       exact⟨_,z8 [0,sw C P 0,2,3] [4,5,8,59,10,60,11] rfl,swp M C P,rfl,rfl⟩
     rintro _ ⟨M1,hM1,rfl⟩
     refine Q4 (fun st=>∃ N1,N1=swp N C p∧st=⟨⟨166,[(4,.p (.box F)),(5,.msl 0 1 0 1),(8,.msl 2 1 0 1),(59,i64 1),(10,i64 C),(60,i64 C)]⟩,[.cells y9 [.msl 1 1 0 1],.row x6 1 (bx (M1 0)),.cells y9 [.msl 3 1 0 1],.row x6 1 (bx (N1 0))]⟩) ?_ ?_
     ·let P:=p
      rcases hp with rfl
      all_goals
       refine Z0 [13,15] [] hT u7 (by rfl) ?_
       refine⟨by omega,?_⟩
       refine⟨by omega,?_⟩
       refine⟨by omega,?_⟩
       refine⟨by omega,?_⟩
       repeat first|refine⟨rfl,?_⟩|refine⟨⟨by omega,rfl⟩,?_⟩
       exact⟨_,z8 [0,1,2,2+sw C P 0] [4,5,8,59,10,60] rfl,swp N C P,rfl,rfl⟩
     rintro _ ⟨N1,hN1,rfl⟩
     have hsw:q9z 1 C (M,N)=(M1,N1):=by
      show (swp M C (q2c M 1 C).toNat,swp N C (q2c M 1 C).toNat)=_
      rw[p1,k0u,← hM1,← hN1]
     have lm:J2 1 M1:=by rw[hM1];exact q2v l1 hC p3
     have ln:J2 1 N1:=by rw[hN1];exact q2v l2 hC p3
     have hv0:(M1 C).getD C 0≠0:=by rw[hM1,x4n];exact p4
     have hM1c:=lm C hC
     have hN1c:=ln C hC
     have hcc:=q2q (l:=M1 C) (c:=C) (by rw[hM1c];exact hC)
     have htm:z5u C (M1,N1)=(q2p M1 C (q1s (Gf.inv ((M1 C).getD C 0)) (M1 C)),q2p N1 C (q1s (Gf.inv ((M1 C).getD C 0)) (N1 C))):=rfl
     have wi:=winv _ hv0
     generalize (M1 C).getD C 0=v at hcc wi htm
     generalize Gf.inv v=by_ at wi htm
     have hcx:(bx (M1 C))[0+((C:Nat):Int).toNat]?=some [u8 v]:=W6 hcc
     have w1:=wtm (M1 C) by_ hM1c
     have w2:=wtm (N1 C) by_ hN1c
     rw[hM1c]at w1
     rw[hN1c]at w2
     refine u0 ⟨⟨166,[(4,.p (.box F)),(5,.msl 0 1 0 1),(8,.msl 2 1 0 1),(59,i64 1),(10,i64 C),(60,i64 C),(12,.p (u8 by_))]⟩,[.cells y9 [.msl 1 1 0 1],.row x6 1 (bx (M1 0)),.cells y9 [.msl 3 1 0 1],.row x6 1 (bx (N1 0))]⟩ True (y7 hT ?_) (fun _=>?_)
     ·refine⟨by omega,?_⟩
      refine⟨⟨by omega,by omega⟩,?_⟩
      refine Z2 hcx ?_
      refine Q1 (Q5 wi _ rfl rfl) ?_
      exact⟨z8 [0,1,2,3] [4,5,8,59,10,60,12] rfl,trivial⟩
     obtain⟨M2,hM2⟩:∃ M2,M2=q2p M1 C (q1s by_ (M1 C)):=⟨_,rfl⟩
     obtain⟨N2,hN2⟩:∃ N2,N2=q2p N1 C (q1s by_ (N1 C)):=⟨_,rfl⟩
     rw[← hM2,← hN2]at htm
     have lm2:J2 1 M2:=by rw[hM2];exact q1p lm C (by rw[q0w];exact hM1c)
     have ln2:J2 1 N2:=by rw[hN2];exact q1p ln C (by rw[q0w];exact hN1c)
     refine u0 ⟨⟨166,[(4,.p (.box F)),(5,.msl 0 1 0 1),(8,.msl 2 1 0 1),(59,i64 1),(10,i64 C),(60,i64 C),(12,.p (u8 by_))]⟩,[.cells y9 [.msl 1 1 0 1],.row x6 1 (bx (M2 0)),.cells y9 [.msl 3 1 0 1],.row x6 1 (bx (N1 0))]⟩ True (y7 hT ?_) (fun _=>?_)
     ·refine⟨by omega,?_⟩
      refine Q1 (Z7 [1+C] w1 rfl rfl rfl) ?_
      rw[hM2]
      exact⟨z8 [0,1,2,3] [4,5,8,59,10,60,12] rfl,trivial⟩
     refine u0 ⟨⟨166,[(4,.p (.box F)),(5,.msl 0 1 0 1),(8,.msl 2 1 0 1),(59,i64 1),(10,i64 C),(60,i64 C)]⟩,[.cells y9 [.msl 1 1 0 1],.row x6 1 (bx (M2 0)),.cells y9 [.msl 3 1 0 1],.row x6 1 (bx (N2 0))]⟩ True (y7 hT ?_) (fun _=>?_)
     ·refine⟨by omega,?_⟩
      refine Q1 (Z7 [3+C] w2 rfl rfl rfl) ?_
      rw[hN2]
      exact⟨z8 [0,1,2,3] [4,5,8,59,10,60] rfl,trivial⟩
     have hend:g (C+1)=elS C (M2,N2) 1:=by rw[hs];unfold q3i;rw[hsw,htm]
     clear w1 w2 wi hM1 hN1 hM2 hN2 hsw htm hs lm ln hcc hcx hv0 hM1c hN1c wp p1 p2 p3 p4 l1 l2 hp
     refine y6 hT ?_
     refine x3 ?_
     refine Q3 (fun n s=>∃ (k:Nat) (j:Int) (M N:U5),n+k=1∧j=k∧elS C (M2,N2) k=(M,N)∧s=⟨⟨166,[(4,.p (.box F)),(5,.msl 0 1 0 1),(8,.msl 2 1 0 1),(59,i64 1),(10,i64 C),(60,i64 C),(122,.msl 0 1 0 1),(123,i64 1),(124,i64 j)]⟩,[.cells y9 [.msl 1 1 0 1],.row x6 1 (bx (M 0)),.cells y9 [.msl 3 1 0 1],.row x6 1 (bx (N 0))]⟩) 1 ⟨⟨166,_⟩,_⟩ (z8 [0,1,2,3] [4,5,8,59,10,60,122,123,124] rfl) ⟨0,0,M2,N2,rfl,rfl,rfl,rfl⟩ ?_
     rintro n2 s ⟨k,j,M,N,hnk,hj,hMN,rfl⟩
     have hlk:=z2b (r:=1) (c:=C) hC (G:=(M2,N2)) lm2 ln2 k (by omega)
     rw[hMN]at hlk
     obtain⟨m1,m2⟩:=hlk
     have m1:J2 1 M:=m1
     have m2:J2 1 N:=m2
     have hsk:elS C (M2,N2) (k+1)=q1t C k (M,N):=by rw[elS,hMN]
     refine y6 hT ?_
     refine u6 (y8 (u9 (fun h=>?_) (fun h=>?_)))
     ·have h:=k0z (show decide (j<((1:Nat):Int))=true from h)
      refine x7 ?_
      have hk4:k=0:=by omega
      subst hj
      refine Q4 (fun st=>∃ M' N',elS C (M2,N2) (k+1)=(M',N')∧st=⟨⟨166,[(4,.p (.box F)),(5,.msl 0 1 0 1),(8,.msl 2 1 0 1),(59,i64 1),(10,i64 C),(60,i64 C),(122,.msl 0 1 0 1),(123,i64 1),(124,i64 k)]⟩,[.cells y9 [.msl 1 1 0 1],.row x6 1 (bx (M' 0)),.cells y9 [.msl 3 1 0 1],.row x6 1 (bx (N' 0))]⟩) (x3 ?_) ?_
      ·let K:=k
       have hK:K<1:=by show k<1;omega
       have hsk:elS C (M2,N2) (K+1)=q1t C K (M,N):=hsk
       rcases hk4 with rfl
       all_goals
        have hg:=q2q (l:=M K) (c:=C) (by rw[m1 K hK];exact hC)
        have hcond:∀ x,(M K).getD C 0=x→q1t C K (M,N)=match !Nat.beq K C&&x != 0 with|true=>(q2p M K (q2b (M K) (M C) x),q2p N K (q2b (N K) (N C) x))|false=>(M,N):=fun x hx=>by subst hx;rfl
        generalize hx:(M K).getD C 0=x at hg
        rw[hcond x hx]at hsk
        clear hcond hx
        have hgx:(bx (M K))[0+((C:Nat):Int).toNat]?=some [u8 x]:=W6 hg
        refine y6 hT ?_
        refine y6 hT ?_
        refine⟨by omega,?_⟩
        refine⟨⟨by omega,by omega⟩,?_⟩
        refine Z2 hgx ?_
        refine y6 hT ?_
        first
         |refine y8 ?_
          exact x7 ⟨_,z8 [0,1,2,3] [4,5,8,59,10,60,122,123,124] rfl,M,N,hsk,rfl⟩
         |refine y8 (u9 (fun h=>?_) (fun h=>?_))
          ·have h:(((x.toNat:Nat):Int) != 0)=true:=h
           rw[bne_iff_ne]at h
           have hne:x≠0:=fun e=>h (by rw[e];rfl)
           rw[bne_iff_ne.mpr hne]at hsk
           have w1:=wad (M K) (M C) x (m1 K hK) (m1 C hC)
           have w2:=wad (N K) (N C) x (m2 K hK) (m2 C hC)
           rw[m1 K hK]at w1
           rw[m2 K hK]at w2
           refine u6 ?_
           refine Z0 [10] [] hT u7 (by rfl) ?_
           refine⟨by omega,?_⟩
           refine⟨by omega,?_⟩
           refine⟨_,_,Z7 [1+K,1+C] w1 rfl rfl rfl,?_⟩
           repeat first|refine⟨rfl,?_⟩|refine⟨⟨by omega,rfl⟩,?_⟩
           refine Z0 [10] [] hT u7 (by rfl) ?_
           refine⟨by omega,?_⟩
           refine⟨by omega,?_⟩
           refine⟨_,_,Z7 [3+K,3+C] w2 rfl rfl rfl,?_⟩
           repeat first|refine⟨rfl,?_⟩|refine⟨⟨by omega,rfl⟩,?_⟩
           exact⟨_,z8 [0,1,2,3] [4,5,8,59,10,60,122,123,124] rfl,_,_,hsk,rfl⟩
          ·have h:(((x.toNat:Nat):Int) != 0)=false:=h
           rw[bne_eq_false_iff_eq]at h
           have hx0:x=0:=UInt8.toNat_inj.mp (by show x.toNat=0;omega)
           rw[hx0]at hsk
           exact x7 ⟨_,z8 [0,1,2,3] [4,5,8,59,10,60,122,123,124] rfl,M,N,hsk,rfl⟩
      ·rintro _ ⟨M',N',hMN',rfl⟩
       refine y7 hT ?_
       exact⟨n2 - 1,by omega,_,z8 [0,1,2,3] [4,5,8,59,10,60,122,123,124] rfl,k+1,IntKind.i64.wrap ((k:Int)+1),M',N',by omega,by rw[Q0 _ (by omega) (by omega)];rfl,hMN',rfl⟩
     ·have h:=k0y (show decide (j<((1:Nat):Int))=false from h)
      have hkr:k=1:=by omega
      rw[hkr,← hend]at hMN
      refine Q7 ?_
      exact⟨_,z8 [0,1,2,3] [4,5,8,59,60] rfl,M,N,hMN,rfl⟩
   ·rintro _ ⟨M',N',hMN',rfl⟩
    refine y7 hT ?_
    exact⟨n - 1,by omega,_,z8 [0,1,2,3] [4,5,8,59,60] rfl,c+1,IntKind.i64.wrap ((c:Int)+1),M',N',by omega,by rw[Q0 _ (by omega) (by omega)];rfl,hMN',rfl⟩
  ·have h:=k0y (show decide (jc<((1:Nat):Int))=false from h)
   rw[show c=1 by omega]at hMN
   obtain rfl:N=(g 1).2:=by rw[hMN]
   refine Q7 ?_
   exact⟨z8 [2,3] [8] rfl,trivial⟩
 refine y6 hT ?_
 refine u5 ?_
 exact x8 [0,1] ⟨rfl,rfl⟩ rfl
theorem v5m (a0 a1:x9)(hA:∀ s∈([a0,a1]:List x9),s.length=2)(hok:y2f 2 [a0,a1]=true) :
 AF k0q z0e [.p (.sl 1 (w9 [a0,a1]))] [] (Q9 (.tup [.p (.sl 1 (w9 [(gs 2 [a0,a1] 2).2 0,(gs 2 [a0,a1] 2).2 1])),i64 0]) []):=by
 have hlen:=y2g hok rfl hA
 refine x1f (M:=(gs 2 [a0,a1] 2).2) (n:=2) (hlen 2 (k1v _)).2 ?_
 have hpiv:=fun(c:Nat) (hc:c<2)=>z5v hc (z9w hok hc)
 have wA:=q0i [a0,a1] 2 (show 1≤2 by decide) (show 2≤64 by decide) (by decide) (by decide) hA
 have ha0:a0.length=2:=hA a0 (by simp)
 have hx0:=Z1 a0
 have ha1:a1.length=2:=hA a1 (by simp)
 have hx1:=Z1 a1
 have hstep:∀ c,gs 2 [a0,a1] (c+1)=q3i 2 c (gs 2 [a0,a1] c):=fun _=>rfl
 have hg0:gs 2 [a0,a1] 0=gs0 2 [a0,a1]:=rfl
 generalize gs 2 [a0,a1]=g at hlen hpiv hstep hg0 ⊢
 have wn:=q4p
 have wo:=x8i
 have winv:=y7g
 have wtm:=fun(t:x9) (x:UInt8) (ht:t.length=2)=>z5s t x (by omega)
 have wad:=fun(to row:x9) (x:UInt8) (ht:to.length=2) (hr:row.length=2)=>z9v to row x (by omega) (by omega)
 unfold q3x at wn winv wtm wad
 generalize fP=F at wn winv wtm wad
 refine Q8 hT Tryz.func175 rfl rfl Tryz.ntmps175 rfl ?_
 refine y6 hT ?_
 refine u0 ⟨⟨166,[(0,.p (.sl 1 (w9 [a0,a1])))]⟩,[]⟩ True (y6 hT ?_) (fun _=>?_)
 ·refine Q1 (Q5 wA _ rfl rfl) ?_
  refine⟨by decide,Z2 rfl ?_⟩
  refine y8 (u9 (fun h=>?_) (fun h=>?_))
  ·have h:((((bx a0).length:Nat):Int) != ((2:Nat):Int))=true:=h
   rw[bne_iff_ne]at h
   omega
  exact x7 ⟨z8 [] [0] rfl,trivial⟩
 refine y6 hT ?_
 refine Q1 (Q5 wn _ rfl rfl) ?_
 refine u0 ⟨⟨166,[(0,.p (.sl 1 (w9 [a0,a1]))),(4,.p (.box F)),(5,.msl 0 1 0 2)]⟩,[.cells y9 [.p (.raw (.slice none 0 0)),.p (.raw (.slice none 0 0))]]⟩ True (y7 hT ?_) (fun _=>?_)
 ·refine⟨⟨rfl,(show (0:Int)≤((2:Nat):Int) by decide),(show ((2:Nat):Int)*24≤140737488355328 by decide),(show ((2:Nat):Int)≤140737488355328 by decide)⟩,?_⟩
  exact⟨Wk.trans (q0k 0 [.raw (.slice none 0 0),.raw (.slice none 0 0)] rfl rfl (by decide)) (z8 [0] [0,4,5] rfl),trivial⟩
 refine u0 ⟨⟨166,[(0,.p (.sl 1 (w9 [a0,a1]))),(4,.p (.box F)),(5,.msl 0 1 0 2)]⟩,[.cells y9 [.msl 1 1 0 2,.msl 2 1 0 2],.row x6 1 (bx a0),.row x6 1 (bx a1)]⟩ True (y6 hT ?_) (fun _=>?_)
 ·refine x3 ?_
  refine Q3 (fun n s=>(n=2∧s=⟨⟨166,[(0,.p (.sl 1 (w9 [a0,a1]))),(4,.p (.box F)),(5,.msl 0 1 0 2),(32,.p (.sl 1 (w9 [a0,a1]))),(33,i64 2),(34,i64 0)]⟩,[.cells y9 [.p (.raw (.slice none 0 0)),.p (.raw (.slice none 0 0))]]⟩)∨(n=1∧s=⟨⟨166,[(0,.p (.sl 1 (w9 [a0,a1]))),(4,.p (.box F)),(5,.msl 0 1 0 2),(32,.p (.sl 1 (w9 [a0,a1]))),(33,i64 2),(34,i64 1)]⟩,[.cells y9 [.msl 1 1 0 2,.p (.raw (.slice none 0 0))],.row x6 1 (bx a0)]⟩)∨(n=0∧s=⟨⟨166,[(0,.p (.sl 1 (w9 [a0,a1]))),(4,.p (.box F)),(5,.msl 0 1 0 2),(32,.p (.sl 1 (w9 [a0,a1]))),(33,i64 2),(34,i64 2)]⟩,[.cells y9 [.msl 1 1 0 2,.msl 2 1 0 2],.row x6 1 (bx a0),.row x6 1 (bx a1)]⟩)) 2 ⟨⟨166,_⟩,_⟩ (z8 [0] [0,4,5,32,33,34] rfl) (.inl ⟨rfl,rfl⟩) ?_
  rintro n s (⟨rfl,rfl⟩|⟨rfl,rfl⟩|⟨rfl,rfl⟩)
  ·refine y6 hT ?_
   refine u6 (y8 ?_)
   refine x7 ?_
   refine Q4 (fun st=>∃ Y,Y=bx a0∧st=⟨⟨166,[(0,.p (.sl 1 (w9 [a0,a1]))),(4,.p (.box F)),(5,.msl 0 1 0 2),(32,.p (.sl 1 (w9 [a0,a1]))),(33,i64 2),(34,i64 0)]⟩,[.cells y9 [.msl 1 1 0 2,.p (.raw (.slice none 0 0))],.row x6 1 (Y)]⟩) (x3 ?_) ?_
   ·refine y6 hT ?_
    refine⟨by decide,Z2 rfl ?_⟩
    refine Q4 (fun st=>∃ (m:Nat) (X:List (List PV)),m=2∧X.length=2∧st=⟨⟨166,[(0,.p (.sl 1 (w9 [a0,a1]))),(4,.p (.box F)),(5,.msl 0 1 0 2),(32,.p (.sl 1 (w9 [a0,a1]))),(33,i64 2),(34,i64 0),(6,i64 0),(7,bA a0)]⟩,[.cells y9 [.msl 1 1 0 m,.p (.raw (.slice none 0 0))],.row x6 1 (X)]⟩) (y7 hT ?_) ?_
    ·refine⟨⟨rfl,by omega,by show (((bx a0).length:Nat):Int)*1≤_;omega,by omega⟩,?_⟩
     refine⟨by decide,?_⟩
     exact⟨_,z8 [0,1] [0,4,5,32,33,34,6,7] rfl,_,_,(by rw[k0u];omega),(by rw[k2z,k0u];omega),rfl⟩
    rintro _ ⟨m,X,rfl,hX,rfl⟩
    refine y7 hT ?_
    refine⟨by decide,?_⟩
    refine⟨⟨by omega,by omega⟩,?_⟩
    refine⟨_,z8 [0,1] [0,4,5,32,33,34] rfl,_,?_,rfl⟩
    exact q4e (by omega)
   ·rintro _ ⟨Y,rfl,rfl⟩
    refine y7 hT ?_
    exact⟨1,by decide,_,z8 [0,1] [0,4,5,32,33,34] rfl,(.inr (.inl ⟨rfl,rfl⟩))⟩
  ·refine y6 hT ?_
   refine u6 (y8 ?_)
   refine x7 ?_
   refine Q4 (fun st=>∃ Y,Y=bx a1∧st=⟨⟨166,[(0,.p (.sl 1 (w9 [a0,a1]))),(4,.p (.box F)),(5,.msl 0 1 0 2),(32,.p (.sl 1 (w9 [a0,a1]))),(33,i64 2),(34,i64 1)]⟩,[.cells y9 [.msl 1 1 0 2,.msl 2 1 0 2],.row x6 1 (bx a0),.row x6 1 (Y)]⟩) (x3 ?_) ?_
   ·refine y6 hT ?_
    refine⟨by decide,Z2 rfl ?_⟩
    refine Q4 (fun st=>∃ (m:Nat) (X:List (List PV)),m=2∧X.length=2∧st=⟨⟨166,[(0,.p (.sl 1 (w9 [a0,a1]))),(4,.p (.box F)),(5,.msl 0 1 0 2),(32,.p (.sl 1 (w9 [a0,a1]))),(33,i64 2),(34,i64 1),(6,i64 1),(7,bA a1)]⟩,[.cells y9 [.msl 1 1 0 2,.msl 2 1 0 m],.row x6 1 (bx a0),.row x6 1 (X)]⟩) (y7 hT ?_) ?_
    ·refine⟨⟨rfl,by omega,by show (((bx a1).length:Nat):Int)*1≤_;omega,by omega⟩,?_⟩
     refine⟨by decide,?_⟩
     exact⟨_,z8 [0,1,2] [0,4,5,32,33,34,6,7] rfl,_,_,(by rw[k0u];omega),(by rw[k2z,k0u];omega),rfl⟩
    rintro _ ⟨m,X,rfl,hX,rfl⟩
    refine y7 hT ?_
    refine⟨by decide,?_⟩
    refine⟨⟨by omega,by omega⟩,?_⟩
    refine⟨_,z8 [0,1,2] [0,4,5,32,33,34] rfl,_,?_,rfl⟩
    exact q4e (by omega)
   ·rintro _ ⟨Y,rfl,rfl⟩
    refine y7 hT ?_
    exact⟨0,by decide,_,z8 [0,1,2] [0,4,5,32,33,34] rfl,(.inr (.inr ⟨rfl,rfl⟩))⟩
  ·refine y6 hT ?_
   refine u6 (y8 ?_)
   refine Q7 ?_
   exact⟨z8 [0,1,2] [0,4,5] rfl,trivial⟩
 refine u0 ⟨⟨166,[(4,.p (.box F)),(5,.msl 0 1 0 2),(8,.msl 3 1 0 2)]⟩,[.cells y9 [.msl 1 1 0 2,.msl 2 1 0 2],.row x6 1 (bx ((g 0).1 0)),.row x6 1 (bx ((g 0).1 1)),.cells y9 [.msl 4 1 0 2,.msl 5 1 0 2],.row x6 1 (bx ((g 0).2 0)),.row x6 1 (bx ((g 0).2 1))]⟩ True (y7 hT ?_) (fun _=>?_)
 ·refine Q1 (q1h wo _ rfl) ?_
  rw[hg0]
  exact⟨z8 [0,1,2,3,4,5] [4,5,8] rfl,trivial⟩
 refine u0 ⟨⟨166,[(8,.msl 0 1 0 2)]⟩,[.cells y9 [.msl 1 1 0 2,.msl 2 1 0 2],.row x6 1 (bx ((g 2).2 0)),.row x6 1 (bx ((g 2).2 1))]⟩ True (y6 hT ?_) (fun _=>?_)
 ·refine x3 ?_
  refine Q3 (fun n s=>∃ (c:Nat) (jc:Int) (M N:U5),n+c=2∧jc=c∧g c=(M,N)∧s=⟨⟨166,[(4,.p (.box F)),(5,.msl 0 1 0 2),(8,.msl 3 1 0 2),(59,i64 2),(60,i64 jc)]⟩,[.cells y9 [.msl 1 1 0 2,.msl 2 1 0 2],.row x6 1 (bx (M 0)),.row x6 1 (bx (M 1)),.cells y9 [.msl 4 1 0 2,.msl 5 1 0 2],.row x6 1 (bx (N 0)),.row x6 1 (bx (N 1))]⟩) 2 ⟨⟨166,_⟩,_⟩ (z8 [0,1,2,3,4,5] [4,5,8,59,60] rfl) ⟨0,0,(g 0).1,(g 0).2,rfl,rfl,rfl,rfl⟩ ?_
  rintro n s ⟨c,jc,M,N,hnc,hjc,hMN,rfl⟩
  refine y6 hT ?_
  refine u6 (y8 (u9 (fun h=>?_) (fun h=>?_)))
  ·have h:=k0z (show decide (jc<((2:Nat):Int))=true from h)
   refine x7 ?_
   subst hjc
   have hcr:c<2:=by omega
   have hc4:c=0∨c=1:=by omega
   obtain⟨p,p1,p2,p3,p4⟩:=hpiv c hcr
   obtain⟨l1,l2⟩:=hlen c (Nat.le_of_lt hcr)
   have hs:=hstep c
   rw[hMN]at p1 p4 l1 l2 hs
   let C:=c
   have hC:C<2:=hcr
   have l1:J2 2 M:=l1
   have l2:J2 2 N:=l2
   have p1:q2c M 2 C=p:=p1
   have p2:C≤p:=p2
   have p4:(M p).getD C 0≠0:=p4
   have hs:g (C+1)=q3i 2 C (M,N):=hs
   have wp:=w3i M l1 C hC
   rw[p1]at wp
   clear hMN
   refine Q4 (fun st=>∃ M' N',g (C+1)=(M',N')∧st=⟨⟨166,[(4,.p (.box F)),(5,.msl 0 1 0 2),(8,.msl 3 1 0 2),(59,i64 2),(60,i64 C)]⟩,[.cells y9 [.msl 1 1 0 2,.msl 2 1 0 2],.row x6 1 (bx (M' 0)),.row x6 1 (bx (M' 1)),.cells y9 [.msl 4 1 0 2,.msl 5 1 0 2],.row x6 1 (bx (N' 0)),.row x6 1 (bx (N' 1))]⟩) (x3 ?_) ?_
   ·rcases hc4 with rfl|rfl
    all_goals
     refine y6 hT ?_
     refine u0 ⟨⟨166,[(4,.p (.box F)),(5,.msl 0 1 0 2),(8,.msl 3 1 0 2),(59,i64 2),(10,i64 C),(60,i64 C),(11,i64 p)]⟩,[.cells y9 [.msl 1 1 0 2,.msl 2 1 0 2],.row x6 1 (bx (M 0)),.row x6 1 (bx (M 1)),.cells y9 [.msl 4 1 0 2,.msl 5 1 0 2],.row x6 1 (bx (N 0)),.row x6 1 (bx (N 1))]⟩ True (y7 hT ?_) (fun _=>?_)
     ·refine Q1 (Z7 [0,1,2] wp rfl rfl rfl) ?_
      exact⟨z8 [0,1,2,3,4,5] [4,5,8,59,10,60,11] rfl,trivial⟩
     refine u0 ⟨⟨166,[(4,.p (.box F)),(5,.msl 0 1 0 2),(8,.msl 3 1 0 2),(59,i64 2),(10,i64 C),(60,i64 C),(11,i64 p)]⟩,[.cells y9 [.msl 1 1 0 2,.msl 2 1 0 2],.row x6 1 (bx (M 0)),.row x6 1 (bx (M 1)),.cells y9 [.msl 4 1 0 2,.msl 5 1 0 2],.row x6 1 (bx (N 0)),.row x6 1 (bx (N 1))]⟩ True (y6 hT ?_) (fun _=>?_)
     ·refine y8 ?_
      exact x7 ⟨z8 [0,1,2,3,4,5] [4,5,8,59,10,60,11] rfl,trivial⟩
     have hp:p=0∨p=1:=by omega
     refine Q4 (fun st=>∃ M1,M1=swp M C p∧st=⟨⟨166,[(4,.p (.box F)),(5,.msl 0 1 0 2),(8,.msl 3 1 0 2),(59,i64 2),(10,i64 C),(60,i64 C),(11,i64 p)]⟩,[.cells y9 [.msl 1 1 0 2,.msl 2 1 0 2],.row x6 1 (bx (M1 0)),.row x6 1 (bx (M1 1)),.cells y9 [.msl 4 1 0 2,.msl 5 1 0 2],.row x6 1 (bx (N 0)),.row x6 1 (bx (N 1))]⟩) ?_ ?_
     ·let P:=p
      rcases hp with rfl|rfl
      all_goals
       refine Z0 [13,15] [] hT u7 (by rfl) ?_
       refine⟨by omega,?_⟩
       refine⟨by omega,?_⟩
       refine⟨by omega,?_⟩
       refine⟨by omega,?_⟩
       repeat first|refine⟨rfl,?_⟩|refine⟨⟨by omega,rfl⟩,?_⟩
       exact⟨_,z8 [0,sw C P 0,sw C P 1,3,4,5] [4,5,8,59,10,60,11] rfl,swp M C P,rfl,rfl⟩
     rintro _ ⟨M1,hM1,rfl⟩
     refine Q4 (fun st=>∃ N1,N1=swp N C p∧st=⟨⟨166,[(4,.p (.box F)),(5,.msl 0 1 0 2),(8,.msl 3 1 0 2),(59,i64 2),(10,i64 C),(60,i64 C)]⟩,[.cells y9 [.msl 1 1 0 2,.msl 2 1 0 2],.row x6 1 (bx (M1 0)),.row x6 1 (bx (M1 1)),.cells y9 [.msl 4 1 0 2,.msl 5 1 0 2],.row x6 1 (bx (N1 0)),.row x6 1 (bx (N1 1))]⟩) ?_ ?_
     ·let P:=p
      rcases hp with rfl|rfl
      all_goals
       refine Z0 [13,15] [] hT u7 (by rfl) ?_
       refine⟨by omega,?_⟩
       refine⟨by omega,?_⟩
       refine⟨by omega,?_⟩
       refine⟨by omega,?_⟩
       repeat first|refine⟨rfl,?_⟩|refine⟨⟨by omega,rfl⟩,?_⟩
       exact⟨_,z8 [0,1,2,3,3+sw C P 0,3+sw C P 1] [4,5,8,59,10,60] rfl,swp N C P,rfl,rfl⟩
     rintro _ ⟨N1,hN1,rfl⟩
     have hsw:q9z 2 C (M,N)=(M1,N1):=by
      show (swp M C (q2c M 2 C).toNat,swp N C (q2c M 2 C).toNat)=_
      rw[p1,k0u,← hM1,← hN1]
     have lm:J2 2 M1:=by rw[hM1];exact q2v l1 hC p3
     have ln:J2 2 N1:=by rw[hN1];exact q2v l2 hC p3
     have hv0:(M1 C).getD C 0≠0:=by rw[hM1,x4n];exact p4
     have hM1c:=lm C hC
     have hN1c:=ln C hC
     have hcc:=q2q (l:=M1 C) (c:=C) (by rw[hM1c];exact hC)
     have htm:z5u C (M1,N1)=(q2p M1 C (q1s (Gf.inv ((M1 C).getD C 0)) (M1 C)),q2p N1 C (q1s (Gf.inv ((M1 C).getD C 0)) (N1 C))):=rfl
     have wi:=winv _ hv0
     generalize (M1 C).getD C 0=v at hcc wi htm
     generalize Gf.inv v=by_ at wi htm
     have hcx:(bx (M1 C))[0+((C:Nat):Int).toNat]?=some [u8 v]:=W6 hcc
     have w1:=wtm (M1 C) by_ hM1c
     have w2:=wtm (N1 C) by_ hN1c
     rw[hM1c]at w1
     rw[hN1c]at w2
     refine u0 ⟨⟨166,[(4,.p (.box F)),(5,.msl 0 1 0 2),(8,.msl 3 1 0 2),(59,i64 2),(10,i64 C),(60,i64 C),(12,.p (u8 by_))]⟩,[.cells y9 [.msl 1 1 0 2,.msl 2 1 0 2],.row x6 1 (bx (M1 0)),.row x6 1 (bx (M1 1)),.cells y9 [.msl 4 1 0 2,.msl 5 1 0 2],.row x6 1 (bx (N1 0)),.row x6 1 (bx (N1 1))]⟩ True (y7 hT ?_) (fun _=>?_)
     ·refine⟨by omega,?_⟩
      refine⟨⟨by omega,by omega⟩,?_⟩
      refine Z2 hcx ?_
      refine Q1 (Q5 wi _ rfl rfl) ?_
      exact⟨z8 [0,1,2,3,4,5] [4,5,8,59,10,60,12] rfl,trivial⟩
     obtain⟨M2,hM2⟩:∃ M2,M2=q2p M1 C (q1s by_ (M1 C)):=⟨_,rfl⟩
     obtain⟨N2,hN2⟩:∃ N2,N2=q2p N1 C (q1s by_ (N1 C)):=⟨_,rfl⟩
     rw[← hM2,← hN2]at htm
     have lm2:J2 2 M2:=by rw[hM2];exact q1p lm C (by rw[q0w];exact hM1c)
     have ln2:J2 2 N2:=by rw[hN2];exact q1p ln C (by rw[q0w];exact hN1c)
     refine u0 ⟨⟨166,[(4,.p (.box F)),(5,.msl 0 1 0 2),(8,.msl 3 1 0 2),(59,i64 2),(10,i64 C),(60,i64 C),(12,.p (u8 by_))]⟩,[.cells y9 [.msl 1 1 0 2,.msl 2 1 0 2],.row x6 1 (bx (M2 0)),.row x6 1 (bx (M2 1)),.cells y9 [.msl 4 1 0 2,.msl 5 1 0 2],.row x6 1 (bx (N1 0)),.row x6 1 (bx (N1 1))]⟩ True (y7 hT ?_) (fun _=>?_)
     ·refine⟨by omega,?_⟩
      refine Q1 (Z7 [1+C] w1 rfl rfl rfl) ?_
      rw[hM2]
      exact⟨z8 [0,1,2,3,4,5] [4,5,8,59,10,60,12] rfl,trivial⟩
     refine u0 ⟨⟨166,[(4,.p (.box F)),(5,.msl 0 1 0 2),(8,.msl 3 1 0 2),(59,i64 2),(10,i64 C),(60,i64 C)]⟩,[.cells y9 [.msl 1 1 0 2,.msl 2 1 0 2],.row x6 1 (bx (M2 0)),.row x6 1 (bx (M2 1)),.cells y9 [.msl 4 1 0 2,.msl 5 1 0 2],.row x6 1 (bx (N2 0)),.row x6 1 (bx (N2 1))]⟩ True (y7 hT ?_) (fun _=>?_)
     ·refine⟨by omega,?_⟩
      refine Q1 (Z7 [4+C] w2 rfl rfl rfl) ?_
      rw[hN2]
      exact⟨z8 [0,1,2,3,4,5] [4,5,8,59,10,60] rfl,trivial⟩
     have hend:g (C+1)=elS C (M2,N2) 2:=by rw[hs];unfold q3i;rw[hsw,htm]
     clear w1 w2 wi hM1 hN1 hM2 hN2 hsw htm hs lm ln hcc hcx hv0 hM1c hN1c wp p1 p2 p3 p4 l1 l2 hp
     refine y6 hT ?_
     refine x3 ?_
     refine Q3 (fun n s=>∃ (k:Nat) (j:Int) (M N:U5),n+k=2∧j=k∧elS C (M2,N2) k=(M,N)∧s=⟨⟨166,[(4,.p (.box F)),(5,.msl 0 1 0 2),(8,.msl 3 1 0 2),(59,i64 2),(10,i64 C),(60,i64 C),(122,.msl 0 1 0 2),(123,i64 2),(124,i64 j)]⟩,[.cells y9 [.msl 1 1 0 2,.msl 2 1 0 2],.row x6 1 (bx (M 0)),.row x6 1 (bx (M 1)),.cells y9 [.msl 4 1 0 2,.msl 5 1 0 2],.row x6 1 (bx (N 0)),.row x6 1 (bx (N 1))]⟩) 2 ⟨⟨166,_⟩,_⟩ (z8 [0,1,2,3,4,5] [4,5,8,59,10,60,122,123,124] rfl) ⟨0,0,M2,N2,rfl,rfl,rfl,rfl⟩ ?_
     rintro n2 s ⟨k,j,M,N,hnk,hj,hMN,rfl⟩
     have hlk:=z2b (r:=2) (c:=C) hC (G:=(M2,N2)) lm2 ln2 k (by omega)
     rw[hMN]at hlk
     obtain⟨m1,m2⟩:=hlk
     have m1:J2 2 M:=m1
     have m2:J2 2 N:=m2
     have hsk:elS C (M2,N2) (k+1)=q1t C k (M,N):=by rw[elS,hMN]
     refine y6 hT ?_
     refine u6 (y8 (u9 (fun h=>?_) (fun h=>?_)))
     ·have h:=k0z (show decide (j<((2:Nat):Int))=true from h)
      refine x7 ?_
      have hk4:k=0∨k=1:=by omega
      subst hj
      refine Q4 (fun st=>∃ M' N',elS C (M2,N2) (k+1)=(M',N')∧st=⟨⟨166,[(4,.p (.box F)),(5,.msl 0 1 0 2),(8,.msl 3 1 0 2),(59,i64 2),(10,i64 C),(60,i64 C),(122,.msl 0 1 0 2),(123,i64 2),(124,i64 k)]⟩,[.cells y9 [.msl 1 1 0 2,.msl 2 1 0 2],.row x6 1 (bx (M' 0)),.row x6 1 (bx (M' 1)),.cells y9 [.msl 4 1 0 2,.msl 5 1 0 2],.row x6 1 (bx (N' 0)),.row x6 1 (bx (N' 1))]⟩) (x3 ?_) ?_
      ·let K:=k
       have hK:K<2:=by show k<2;omega
       have hsk:elS C (M2,N2) (K+1)=q1t C K (M,N):=hsk
       rcases hk4 with rfl|rfl
       all_goals
        have hg:=q2q (l:=M K) (c:=C) (by rw[m1 K hK];exact hC)
        have hcond:∀ x,(M K).getD C 0=x→q1t C K (M,N)=match !Nat.beq K C&&x != 0 with|true=>(q2p M K (q2b (M K) (M C) x),q2p N K (q2b (N K) (N C) x))|false=>(M,N):=fun x hx=>by subst hx;rfl
        generalize hx:(M K).getD C 0=x at hg
        rw[hcond x hx]at hsk
        clear hcond hx
        have hgx:(bx (M K))[0+((C:Nat):Int).toNat]?=some [u8 x]:=W6 hg
        refine y6 hT ?_
        refine y6 hT ?_
        refine⟨by omega,?_⟩
        refine⟨⟨by omega,by omega⟩,?_⟩
        refine Z2 hgx ?_
        refine y6 hT ?_
        first
         |refine y8 ?_
          exact x7 ⟨_,z8 [0,1,2,3,4,5] [4,5,8,59,10,60,122,123,124] rfl,M,N,hsk,rfl⟩
         |refine y8 (u9 (fun h=>?_) (fun h=>?_))
          ·have h:(((x.toNat:Nat):Int) != 0)=true:=h
           rw[bne_iff_ne]at h
           have hne:x≠0:=fun e=>h (by rw[e];rfl)
           rw[bne_iff_ne.mpr hne]at hsk
           have w1:=wad (M K) (M C) x (m1 K hK) (m1 C hC)
           have w2:=wad (N K) (N C) x (m2 K hK) (m2 C hC)
           rw[m1 K hK]at w1
           rw[m2 K hK]at w2
           refine u6 ?_
           refine Z0 [10] [] hT u7 (by rfl) ?_
           refine⟨by omega,?_⟩
           refine⟨by omega,?_⟩
           refine⟨_,_,Z7 [1+K,1+C] w1 rfl rfl rfl,?_⟩
           repeat first|refine⟨rfl,?_⟩|refine⟨⟨by omega,rfl⟩,?_⟩
           refine Z0 [10] [] hT u7 (by rfl) ?_
           refine⟨by omega,?_⟩
           refine⟨by omega,?_⟩
           refine⟨_,_,Z7 [4+K,4+C] w2 rfl rfl rfl,?_⟩
           repeat first|refine⟨rfl,?_⟩|refine⟨⟨by omega,rfl⟩,?_⟩
           exact⟨_,z8 [0,1,2,3,4,5] [4,5,8,59,10,60,122,123,124] rfl,_,_,hsk,rfl⟩
          ·have h:(((x.toNat:Nat):Int) != 0)=false:=h
           rw[bne_eq_false_iff_eq]at h
           have hx0:x=0:=UInt8.toNat_inj.mp (by show x.toNat=0;omega)
           rw[hx0]at hsk
           exact x7 ⟨_,z8 [0,1,2,3,4,5] [4,5,8,59,10,60,122,123,124] rfl,M,N,hsk,rfl⟩
      ·rintro _ ⟨M',N',hMN',rfl⟩
       refine y7 hT ?_
       exact⟨n2 - 1,by omega,_,z8 [0,1,2,3,4,5] [4,5,8,59,10,60,122,123,124] rfl,k+1,IntKind.i64.wrap ((k:Int)+1),M',N',by omega,by rw[Q0 _ (by omega) (by omega)];rfl,hMN',rfl⟩
     ·have h:=k0y (show decide (j<((2:Nat):Int))=false from h)
      have hkr:k=2:=by omega
      rw[hkr,← hend]at hMN
      refine Q7 ?_
      exact⟨_,z8 [0,1,2,3,4,5] [4,5,8,59,60] rfl,M,N,hMN,rfl⟩
   ·rintro _ ⟨M',N',hMN',rfl⟩
    refine y7 hT ?_
    exact⟨n - 1,by omega,_,z8 [0,1,2,3,4,5] [4,5,8,59,60] rfl,c+1,IntKind.i64.wrap ((c:Int)+1),M',N',by omega,by rw[Q0 _ (by omega) (by omega)];rfl,hMN',rfl⟩
  ·have h:=k0y (show decide (jc<((2:Nat):Int))=false from h)
   rw[show c=2 by omega]at hMN
   obtain rfl:N=(g 2).2:=by rw[hMN]
   refine Q7 ?_
   exact⟨z8 [3,4,5] [8] rfl,trivial⟩
 refine y6 hT ?_
 refine u5 ?_
 exact x8 [0,1,2] ⟨rfl,rfl⟩ rfl
theorem v5n (a0 a1 a2:x9)(hA:∀ s∈([a0,a1,a2]:List x9),s.length=3)(hok:y2f 3 [a0,a1,a2]=true) :
 AF k0q z0e [.p (.sl 1 (w9 [a0,a1,a2]))] [] (Q9 (.tup [.p (.sl 1 (w9 [(gs 3 [a0,a1,a2] 3).2 0,(gs 3 [a0,a1,a2] 3).2 1,(gs 3 [a0,a1,a2] 3).2 2])),i64 0]) []):=by
 have hlen:=y2g hok rfl hA
 refine x1g (M:=(gs 3 [a0,a1,a2] 3).2) (n:=3) (hlen 3 (k1v _)).2 ?_
 have hpiv:=fun(c:Nat) (hc:c<3)=>z5v hc (z9w hok hc)
 have wA:=q0i [a0,a1,a2] 3 (show 1≤3 by decide) (show 3≤64 by decide) (by decide) (by decide) hA
 have ha0:a0.length=3:=hA a0 (by simp)
 have hx0:=Z1 a0
 have ha1:a1.length=3:=hA a1 (by simp)
 have hx1:=Z1 a1
 have ha2:a2.length=3:=hA a2 (by simp)
 have hx2:=Z1 a2
 have hstep:∀ c,gs 3 [a0,a1,a2] (c+1)=q3i 3 c (gs 3 [a0,a1,a2] c):=fun _=>rfl
 have hg0:gs 3 [a0,a1,a2] 0=gs0 3 [a0,a1,a2]:=rfl
 generalize gs 3 [a0,a1,a2]=g at hlen hpiv hstep hg0 ⊢
 have wn:=q4p
 have wo:=x8j
 have winv:=y7g
 have wtm:=fun(t:x9) (x:UInt8) (ht:t.length=3)=>z5s t x (by omega)
 have wad:=fun(to row:x9) (x:UInt8) (ht:to.length=3) (hr:row.length=3)=>z9v to row x (by omega) (by omega)
 unfold q3x at wn winv wtm wad
 generalize fP=F at wn winv wtm wad
 refine Q8 hT Tryz.func175 rfl rfl Tryz.ntmps175 rfl ?_
 refine y6 hT ?_
 refine u0 ⟨⟨166,[(0,.p (.sl 1 (w9 [a0,a1,a2])))]⟩,[]⟩ True (y6 hT ?_) (fun _=>?_)
 ·refine Q1 (Q5 wA _ rfl rfl) ?_
  refine⟨by decide,Z2 rfl ?_⟩
  refine y8 (u9 (fun h=>?_) (fun h=>?_))
  ·have h:((((bx a0).length:Nat):Int) != ((3:Nat):Int))=true:=h
   rw[bne_iff_ne]at h
   omega
  exact x7 ⟨z8 [] [0] rfl,trivial⟩
 refine y6 hT ?_
 refine Q1 (Q5 wn _ rfl rfl) ?_
 refine u0 ⟨⟨166,[(0,.p (.sl 1 (w9 [a0,a1,a2]))),(4,.p (.box F)),(5,.msl 0 1 0 3)]⟩,[.cells y9 [.p (.raw (.slice none 0 0)),.p (.raw (.slice none 0 0)),.p (.raw (.slice none 0 0))]]⟩ True (y7 hT ?_) (fun _=>?_)
 ·refine⟨⟨rfl,(show (0:Int)≤((3:Nat):Int) by decide),(show ((3:Nat):Int)*24≤140737488355328 by decide),(show ((3:Nat):Int)≤140737488355328 by decide)⟩,?_⟩
  exact⟨Wk.trans (q0k 0 [.raw (.slice none 0 0),.raw (.slice none 0 0),.raw (.slice none 0 0)] rfl rfl (by decide)) (z8 [0] [0,4,5] rfl),trivial⟩
 refine u0 ⟨⟨166,[(0,.p (.sl 1 (w9 [a0,a1,a2]))),(4,.p (.box F)),(5,.msl 0 1 0 3)]⟩,[.cells y9 [.msl 1 1 0 3,.msl 2 1 0 3,.msl 3 1 0 3],.row x6 1 (bx a0),.row x6 1 (bx a1),.row x6 1 (bx a2)]⟩ True (y6 hT ?_) (fun _=>?_)
 ·refine x3 ?_
  refine Q3 (fun n s=>(n=3∧s=⟨⟨166,[(0,.p (.sl 1 (w9 [a0,a1,a2]))),(4,.p (.box F)),(5,.msl 0 1 0 3),(32,.p (.sl 1 (w9 [a0,a1,a2]))),(33,i64 3),(34,i64 0)]⟩,[.cells y9 [.p (.raw (.slice none 0 0)),.p (.raw (.slice none 0 0)),.p (.raw (.slice none 0 0))]]⟩)∨(n=2∧s=⟨⟨166,[(0,.p (.sl 1 (w9 [a0,a1,a2]))),(4,.p (.box F)),(5,.msl 0 1 0 3),(32,.p (.sl 1 (w9 [a0,a1,a2]))),(33,i64 3),(34,i64 1)]⟩,[.cells y9 [.msl 1 1 0 3,.p (.raw (.slice none 0 0)),.p (.raw (.slice none 0 0))],.row x6 1 (bx a0)]⟩)∨(n=1∧s=⟨⟨166,[(0,.p (.sl 1 (w9 [a0,a1,a2]))),(4,.p (.box F)),(5,.msl 0 1 0 3),(32,.p (.sl 1 (w9 [a0,a1,a2]))),(33,i64 3),(34,i64 2)]⟩,[.cells y9 [.msl 1 1 0 3,.msl 2 1 0 3,.p (.raw (.slice none 0 0))],.row x6 1 (bx a0),.row x6 1 (bx a1)]⟩)∨(n=0∧s=⟨⟨166,[(0,.p (.sl 1 (w9 [a0,a1,a2]))),(4,.p (.box F)),(5,.msl 0 1 0 3),(32,.p (.sl 1 (w9 [a0,a1,a2]))),(33,i64 3),(34,i64 3)]⟩,[.cells y9 [.msl 1 1 0 3,.msl 2 1 0 3,.msl 3 1 0 3],.row x6 1 (bx a0),.row x6 1 (bx a1),.row x6 1 (bx a2)]⟩)) 3 ⟨⟨166,_⟩,_⟩ (z8 [0] [0,4,5,32,33,34] rfl) (.inl ⟨rfl,rfl⟩) ?_
  rintro n s (⟨rfl,rfl⟩|⟨rfl,rfl⟩|⟨rfl,rfl⟩|⟨rfl,rfl⟩)
  ·refine y6 hT ?_
   refine u6 (y8 ?_)
   refine x7 ?_
   refine Q4 (fun st=>∃ Y,Y=bx a0∧st=⟨⟨166,[(0,.p (.sl 1 (w9 [a0,a1,a2]))),(4,.p (.box F)),(5,.msl 0 1 0 3),(32,.p (.sl 1 (w9 [a0,a1,a2]))),(33,i64 3),(34,i64 0)]⟩,[.cells y9 [.msl 1 1 0 3,.p (.raw (.slice none 0 0)),.p (.raw (.slice none 0 0))],.row x6 1 (Y)]⟩) (x3 ?_) ?_
   ·refine y6 hT ?_
    refine⟨by decide,Z2 rfl ?_⟩
    refine Q4 (fun st=>∃ (m:Nat) (X:List (List PV)),m=3∧X.length=3∧st=⟨⟨166,[(0,.p (.sl 1 (w9 [a0,a1,a2]))),(4,.p (.box F)),(5,.msl 0 1 0 3),(32,.p (.sl 1 (w9 [a0,a1,a2]))),(33,i64 3),(34,i64 0),(6,i64 0),(7,bA a0)]⟩,[.cells y9 [.msl 1 1 0 m,.p (.raw (.slice none 0 0)),.p (.raw (.slice none 0 0))],.row x6 1 (X)]⟩) (y7 hT ?_) ?_
    ·refine⟨⟨rfl,by omega,by show (((bx a0).length:Nat):Int)*1≤_;omega,by omega⟩,?_⟩
     refine⟨by decide,?_⟩
     exact⟨_,z8 [0,1] [0,4,5,32,33,34,6,7] rfl,_,_,(by rw[k0u];omega),(by rw[k2z,k0u];omega),rfl⟩
    rintro _ ⟨m,X,rfl,hX,rfl⟩
    refine y7 hT ?_
    refine⟨by decide,?_⟩
    refine⟨⟨by omega,by omega⟩,?_⟩
    refine⟨_,z8 [0,1] [0,4,5,32,33,34] rfl,_,?_,rfl⟩
    exact q4e (by omega)
   ·rintro _ ⟨Y,rfl,rfl⟩
    refine y7 hT ?_
    exact⟨2,by decide,_,z8 [0,1] [0,4,5,32,33,34] rfl,(.inr (.inl ⟨rfl,rfl⟩))⟩
  ·refine y6 hT ?_
   refine u6 (y8 ?_)
   refine x7 ?_
   refine Q4 (fun st=>∃ Y,Y=bx a1∧st=⟨⟨166,[(0,.p (.sl 1 (w9 [a0,a1,a2]))),(4,.p (.box F)),(5,.msl 0 1 0 3),(32,.p (.sl 1 (w9 [a0,a1,a2]))),(33,i64 3),(34,i64 1)]⟩,[.cells y9 [.msl 1 1 0 3,.msl 2 1 0 3,.p (.raw (.slice none 0 0))],.row x6 1 (bx a0),.row x6 1 (Y)]⟩) (x3 ?_) ?_
   ·refine y6 hT ?_
    refine⟨by decide,Z2 rfl ?_⟩
    refine Q4 (fun st=>∃ (m:Nat) (X:List (List PV)),m=3∧X.length=3∧st=⟨⟨166,[(0,.p (.sl 1 (w9 [a0,a1,a2]))),(4,.p (.box F)),(5,.msl 0 1 0 3),(32,.p (.sl 1 (w9 [a0,a1,a2]))),(33,i64 3),(34,i64 1),(6,i64 1),(7,bA a1)]⟩,[.cells y9 [.msl 1 1 0 3,.msl 2 1 0 m,.p (.raw (.slice none 0 0))],.row x6 1 (bx a0),.row x6 1 (X)]⟩) (y7 hT ?_) ?_
    ·refine⟨⟨rfl,by omega,by show (((bx a1).length:Nat):Int)*1≤_;omega,by omega⟩,?_⟩
     refine⟨by decide,?_⟩
     exact⟨_,z8 [0,1,2] [0,4,5,32,33,34,6,7] rfl,_,_,(by rw[k0u];omega),(by rw[k2z,k0u];omega),rfl⟩
    rintro _ ⟨m,X,rfl,hX,rfl⟩
    refine y7 hT ?_
    refine⟨by decide,?_⟩
    refine⟨⟨by omega,by omega⟩,?_⟩
    refine⟨_,z8 [0,1,2] [0,4,5,32,33,34] rfl,_,?_,rfl⟩
    exact q4e (by omega)
   ·rintro _ ⟨Y,rfl,rfl⟩
    refine y7 hT ?_
    exact⟨1,by decide,_,z8 [0,1,2] [0,4,5,32,33,34] rfl,(.inr (.inr (.inl ⟨rfl,rfl⟩)))⟩
  ·refine y6 hT ?_
   refine u6 (y8 ?_)
   refine x7 ?_
   refine Q4 (fun st=>∃ Y,Y=bx a2∧st=⟨⟨166,[(0,.p (.sl 1 (w9 [a0,a1,a2]))),(4,.p (.box F)),(5,.msl 0 1 0 3),(32,.p (.sl 1 (w9 [a0,a1,a2]))),(33,i64 3),(34,i64 2)]⟩,[.cells y9 [.msl 1 1 0 3,.msl 2 1 0 3,.msl 3 1 0 3],.row x6 1 (bx a0),.row x6 1 (bx a1),.row x6 1 (Y)]⟩) (x3 ?_) ?_
   ·refine y6 hT ?_
    refine⟨by decide,Z2 rfl ?_⟩
    refine Q4 (fun st=>∃ (m:Nat) (X:List (List PV)),m=3∧X.length=3∧st=⟨⟨166,[(0,.p (.sl 1 (w9 [a0,a1,a2]))),(4,.p (.box F)),(5,.msl 0 1 0 3),(32,.p (.sl 1 (w9 [a0,a1,a2]))),(33,i64 3),(34,i64 2),(6,i64 2),(7,bA a2)]⟩,[.cells y9 [.msl 1 1 0 3,.msl 2 1 0 3,.msl 3 1 0 m],.row x6 1 (bx a0),.row x6 1 (bx a1),.row x6 1 (X)]⟩) (y7 hT ?_) ?_
    ·refine⟨⟨rfl,by omega,by show (((bx a2).length:Nat):Int)*1≤_;omega,by omega⟩,?_⟩
     refine⟨by decide,?_⟩
     exact⟨_,z8 [0,1,2,3] [0,4,5,32,33,34,6,7] rfl,_,_,(by rw[k0u];omega),(by rw[k2z,k0u];omega),rfl⟩
    rintro _ ⟨m,X,rfl,hX,rfl⟩
    refine y7 hT ?_
    refine⟨by decide,?_⟩
    refine⟨⟨by omega,by omega⟩,?_⟩
    refine⟨_,z8 [0,1,2,3] [0,4,5,32,33,34] rfl,_,?_,rfl⟩
    exact q4e (by omega)
   ·rintro _ ⟨Y,rfl,rfl⟩
    refine y7 hT ?_
    exact⟨0,by decide,_,z8 [0,1,2,3] [0,4,5,32,33,34] rfl,(.inr (.inr (.inr ⟨rfl,rfl⟩)))⟩
  ·refine y6 hT ?_
   refine u6 (y8 ?_)
   refine Q7 ?_
   exact⟨z8 [0,1,2,3] [0,4,5] rfl,trivial⟩
 refine u0 ⟨⟨166,[(4,.p (.box F)),(5,.msl 0 1 0 3),(8,.msl 4 1 0 3)]⟩,[.cells y9 [.msl 1 1 0 3,.msl 2 1 0 3,.msl 3 1 0 3],.row x6 1 (bx ((g 0).1 0)),.row x6 1 (bx ((g 0).1 1)),.row x6 1 (bx ((g 0).1 2)),.cells y9 [.msl 5 1 0 3,.msl 6 1 0 3,.msl 7 1 0 3],.row x6 1 (bx ((g 0).2 0)),.row x6 1 (bx ((g 0).2 1)),.row x6 1 (bx ((g 0).2 2))]⟩ True (y7 hT ?_) (fun _=>?_)
 ·refine Q1 (q1h wo _ rfl) ?_
  rw[hg0]
  exact⟨z8 [0,1,2,3,4,5,6,7] [4,5,8] rfl,trivial⟩
 refine u0 ⟨⟨166,[(8,.msl 0 1 0 3)]⟩,[.cells y9 [.msl 1 1 0 3,.msl 2 1 0 3,.msl 3 1 0 3],.row x6 1 (bx ((g 3).2 0)),.row x6 1 (bx ((g 3).2 1)),.row x6 1 (bx ((g 3).2 2))]⟩ True (y6 hT ?_) (fun _=>?_)
 ·refine x3 ?_
  refine Q3 (fun n s=>∃ (c:Nat) (jc:Int) (M N:U5),n+c=3∧jc=c∧g c=(M,N)∧s=⟨⟨166,[(4,.p (.box F)),(5,.msl 0 1 0 3),(8,.msl 4 1 0 3),(59,i64 3),(60,i64 jc)]⟩,[.cells y9 [.msl 1 1 0 3,.msl 2 1 0 3,.msl 3 1 0 3],.row x6 1 (bx (M 0)),.row x6 1 (bx (M 1)),.row x6 1 (bx (M 2)),.cells y9 [.msl 5 1 0 3,.msl 6 1 0 3,.msl 7 1 0 3],.row x6 1 (bx (N 0)),.row x6 1 (bx (N 1)),.row x6 1 (bx (N 2))]⟩) 3 ⟨⟨166,_⟩,_⟩ (z8 [0,1,2,3,4,5,6,7] [4,5,8,59,60] rfl) ⟨0,0,(g 0).1,(g 0).2,rfl,rfl,rfl,rfl⟩ ?_
  rintro n s ⟨c,jc,M,N,hnc,hjc,hMN,rfl⟩
  refine y6 hT ?_
  refine u6 (y8 (u9 (fun h=>?_) (fun h=>?_)))
  ·have h:=k0z (show decide (jc<((3:Nat):Int))=true from h)
   refine x7 ?_
   subst hjc
   have hcr:c<3:=by omega
   have hc4:c=0∨c=1∨c=2:=by omega
   obtain⟨p,p1,p2,p3,p4⟩:=hpiv c hcr
   obtain⟨l1,l2⟩:=hlen c (Nat.le_of_lt hcr)
   have hs:=hstep c
   rw[hMN]at p1 p4 l1 l2 hs
   let C:=c
   have hC:C<3:=hcr
   have l1:J2 3 M:=l1
   have l2:J2 3 N:=l2
   have p1:q2c M 3 C=p:=p1
   have p2:C≤p:=p2
   have p4:(M p).getD C 0≠0:=p4
   have hs:g (C+1)=q3i 3 C (M,N):=hs
   have wp:=w3j M l1 C hC
   rw[p1]at wp
   clear hMN
   refine Q4 (fun st=>∃ M' N',g (C+1)=(M',N')∧st=⟨⟨166,[(4,.p (.box F)),(5,.msl 0 1 0 3),(8,.msl 4 1 0 3),(59,i64 3),(60,i64 C)]⟩,[.cells y9 [.msl 1 1 0 3,.msl 2 1 0 3,.msl 3 1 0 3],.row x6 1 (bx (M' 0)),.row x6 1 (bx (M' 1)),.row x6 1 (bx (M' 2)),.cells y9 [.msl 5 1 0 3,.msl 6 1 0 3,.msl 7 1 0 3],.row x6 1 (bx (N' 0)),.row x6 1 (bx (N' 1)),.row x6 1 (bx (N' 2))]⟩) (x3 ?_) ?_
   ·rcases hc4 with rfl|rfl|rfl
    all_goals
     refine y6 hT ?_
     refine u0 ⟨⟨166,[(4,.p (.box F)),(5,.msl 0 1 0 3),(8,.msl 4 1 0 3),(59,i64 3),(10,i64 C),(60,i64 C),(11,i64 p)]⟩,[.cells y9 [.msl 1 1 0 3,.msl 2 1 0 3,.msl 3 1 0 3],.row x6 1 (bx (M 0)),.row x6 1 (bx (M 1)),.row x6 1 (bx (M 2)),.cells y9 [.msl 5 1 0 3,.msl 6 1 0 3,.msl 7 1 0 3],.row x6 1 (bx (N 0)),.row x6 1 (bx (N 1)),.row x6 1 (bx (N 2))]⟩ True (y7 hT ?_) (fun _=>?_)
     ·refine Q1 (Z7 [0,1,2,3] wp rfl rfl rfl) ?_
      exact⟨z8 [0,1,2,3,4,5,6,7] [4,5,8,59,10,60,11] rfl,trivial⟩
     refine u0 ⟨⟨166,[(4,.p (.box F)),(5,.msl 0 1 0 3),(8,.msl 4 1 0 3),(59,i64 3),(10,i64 C),(60,i64 C),(11,i64 p)]⟩,[.cells y9 [.msl 1 1 0 3,.msl 2 1 0 3,.msl 3 1 0 3],.row x6 1 (bx (M 0)),.row x6 1 (bx (M 1)),.row x6 1 (bx (M 2)),.cells y9 [.msl 5 1 0 3,.msl 6 1 0 3,.msl 7 1 0 3],.row x6 1 (bx (N 0)),.row x6 1 (bx (N 1)),.row x6 1 (bx (N 2))]⟩ True (y6 hT ?_) (fun _=>?_)
     ·refine y8 ?_
      exact x7 ⟨z8 [0,1,2,3,4,5,6,7] [4,5,8,59,10,60,11] rfl,trivial⟩
     have hp:p=0∨p=1∨p=2:=by omega
     refine Q4 (fun st=>∃ M1,M1=swp M C p∧st=⟨⟨166,[(4,.p (.box F)),(5,.msl 0 1 0 3),(8,.msl 4 1 0 3),(59,i64 3),(10,i64 C),(60,i64 C),(11,i64 p)]⟩,[.cells y9 [.msl 1 1 0 3,.msl 2 1 0 3,.msl 3 1 0 3],.row x6 1 (bx (M1 0)),.row x6 1 (bx (M1 1)),.row x6 1 (bx (M1 2)),.cells y9 [.msl 5 1 0 3,.msl 6 1 0 3,.msl 7 1 0 3],.row x6 1 (bx (N 0)),.row x6 1 (bx (N 1)),.row x6 1 (bx (N 2))]⟩) ?_ ?_
     ·let P:=p
      rcases hp with rfl|rfl|rfl
      all_goals
       refine Z0 [13,15] [] hT u7 (by rfl) ?_
       refine⟨by omega,?_⟩
       refine⟨by omega,?_⟩
       refine⟨by omega,?_⟩
       refine⟨by omega,?_⟩
       repeat first|refine⟨rfl,?_⟩|refine⟨⟨by omega,rfl⟩,?_⟩
       exact⟨_,z8 [0,sw C P 0,sw C P 1,sw C P 2,4,5,6,7] [4,5,8,59,10,60,11] rfl,swp M C P,rfl,rfl⟩
     rintro _ ⟨M1,hM1,rfl⟩
     refine Q4 (fun st=>∃ N1,N1=swp N C p∧st=⟨⟨166,[(4,.p (.box F)),(5,.msl 0 1 0 3),(8,.msl 4 1 0 3),(59,i64 3),(10,i64 C),(60,i64 C)]⟩,[.cells y9 [.msl 1 1 0 3,.msl 2 1 0 3,.msl 3 1 0 3],.row x6 1 (bx (M1 0)),.row x6 1 (bx (M1 1)),.row x6 1 (bx (M1 2)),.cells y9 [.msl 5 1 0 3,.msl 6 1 0 3,.msl 7 1 0 3],.row x6 1 (bx (N1 0)),.row x6 1 (bx (N1 1)),.row x6 1 (bx (N1 2))]⟩) ?_ ?_
     ·let P:=p
      rcases hp with rfl|rfl|rfl
      all_goals
       refine Z0 [13,15] [] hT u7 (by rfl) ?_
       refine⟨by omega,?_⟩
       refine⟨by omega,?_⟩
       refine⟨by omega,?_⟩
       refine⟨by omega,?_⟩
       repeat first|refine⟨rfl,?_⟩|refine⟨⟨by omega,rfl⟩,?_⟩
       exact⟨_,z8 [0,1,2,3,4,4+sw C P 0,4+sw C P 1,4+sw C P 2] [4,5,8,59,10,60] rfl,swp N C P,rfl,rfl⟩
     rintro _ ⟨N1,hN1,rfl⟩
     have hsw:q9z 3 C (M,N)=(M1,N1):=by
      show (swp M C (q2c M 3 C).toNat,swp N C (q2c M 3 C).toNat)=_
      rw[p1,k0u,← hM1,← hN1]
     have lm:J2 3 M1:=by rw[hM1];exact q2v l1 hC p3
     have ln:J2 3 N1:=by rw[hN1];exact q2v l2 hC p3
     have hv0:(M1 C).getD C 0≠0:=by rw[hM1,x4n];exact p4
     have hM1c:=lm C hC
     have hN1c:=ln C hC
     have hcc:=q2q (l:=M1 C) (c:=C) (by rw[hM1c];exact hC)
     have htm:z5u C (M1,N1)=(q2p M1 C (q1s (Gf.inv ((M1 C).getD C 0)) (M1 C)),q2p N1 C (q1s (Gf.inv ((M1 C).getD C 0)) (N1 C))):=rfl
     have wi:=winv _ hv0
     generalize (M1 C).getD C 0=v at hcc wi htm
     generalize Gf.inv v=by_ at wi htm
     have hcx:(bx (M1 C))[0+((C:Nat):Int).toNat]?=some [u8 v]:=W6 hcc
     have w1:=wtm (M1 C) by_ hM1c
     have w2:=wtm (N1 C) by_ hN1c
     rw[hM1c]at w1
     rw[hN1c]at w2
     refine u0 ⟨⟨166,[(4,.p (.box F)),(5,.msl 0 1 0 3),(8,.msl 4 1 0 3),(59,i64 3),(10,i64 C),(60,i64 C),(12,.p (u8 by_))]⟩,[.cells y9 [.msl 1 1 0 3,.msl 2 1 0 3,.msl 3 1 0 3],.row x6 1 (bx (M1 0)),.row x6 1 (bx (M1 1)),.row x6 1 (bx (M1 2)),.cells y9 [.msl 5 1 0 3,.msl 6 1 0 3,.msl 7 1 0 3],.row x6 1 (bx (N1 0)),.row x6 1 (bx (N1 1)),.row x6 1 (bx (N1 2))]⟩ True (y7 hT ?_) (fun _=>?_)
     ·refine⟨by omega,?_⟩
      refine⟨⟨by omega,by omega⟩,?_⟩
      refine Z2 hcx ?_
      refine Q1 (Q5 wi _ rfl rfl) ?_
      exact⟨z8 [0,1,2,3,4,5,6,7] [4,5,8,59,10,60,12] rfl,trivial⟩
     obtain⟨M2,hM2⟩:∃ M2,M2=q2p M1 C (q1s by_ (M1 C)):=⟨_,rfl⟩
     obtain⟨N2,hN2⟩:∃ N2,N2=q2p N1 C (q1s by_ (N1 C)):=⟨_,rfl⟩
     rw[← hM2,← hN2]at htm
     have lm2:J2 3 M2:=by rw[hM2];exact q1p lm C (by rw[q0w];exact hM1c)
     have ln2:J2 3 N2:=by rw[hN2];exact q1p ln C (by rw[q0w];exact hN1c)
     refine u0 ⟨⟨166,[(4,.p (.box F)),(5,.msl 0 1 0 3),(8,.msl 4 1 0 3),(59,i64 3),(10,i64 C),(60,i64 C),(12,.p (u8 by_))]⟩,[.cells y9 [.msl 1 1 0 3,.msl 2 1 0 3,.msl 3 1 0 3],.row x6 1 (bx (M2 0)),.row x6 1 (bx (M2 1)),.row x6 1 (bx (M2 2)),.cells y9 [.msl 5 1 0 3,.msl 6 1 0 3,.msl 7 1 0 3],.row x6 1 (bx (N1 0)),.row x6 1 (bx (N1 1)),.row x6 1 (bx (N1 2))]⟩ True (y7 hT ?_) (fun _=>?_)
     ·refine⟨by omega,?_⟩
      refine Q1 (Z7 [1+C] w1 rfl rfl rfl) ?_
      rw[hM2]
      exact⟨z8 [0,1,2,3,4,5,6,7] [4,5,8,59,10,60,12] rfl,trivial⟩
     refine u0 ⟨⟨166,[(4,.p (.box F)),(5,.msl 0 1 0 3),(8,.msl 4 1 0 3),(59,i64 3),(10,i64 C),(60,i64 C)]⟩,[.cells y9 [.msl 1 1 0 3,.msl 2 1 0 3,.msl 3 1 0 3],.row x6 1 (bx (M2 0)),.row x6 1 (bx (M2 1)),.row x6 1 (bx (M2 2)),.cells y9 [.msl 5 1 0 3,.msl 6 1 0 3,.msl 7 1 0 3],.row x6 1 (bx (N2 0)),.row x6 1 (bx (N2 1)),.row x6 1 (bx (N2 2))]⟩ True (y7 hT ?_) (fun _=>?_)
     ·refine⟨by omega,?_⟩
      refine Q1 (Z7 [5+C] w2 rfl rfl rfl) ?_
      rw[hN2]
      exact⟨z8 [0,1,2,3,4,5,6,7] [4,5,8,59,10,60] rfl,trivial⟩
     have hend:g (C+1)=elS C (M2,N2) 3:=by rw[hs];unfold q3i;rw[hsw,htm]
     clear w1 w2 wi hM1 hN1 hM2 hN2 hsw htm hs lm ln hcc hcx hv0 hM1c hN1c wp p1 p2 p3 p4 l1 l2 hp
     refine y6 hT ?_
     refine x3 ?_
     refine Q3 (fun n s=>∃ (k:Nat) (j:Int) (M N:U5),n+k=3∧j=k∧elS C (M2,N2) k=(M,N)∧s=⟨⟨166,[(4,.p (.box F)),(5,.msl 0 1 0 3),(8,.msl 4 1 0 3),(59,i64 3),(10,i64 C),(60,i64 C),(122,.msl 0 1 0 3),(123,i64 3),(124,i64 j)]⟩,[.cells y9 [.msl 1 1 0 3,.msl 2 1 0 3,.msl 3 1 0 3],.row x6 1 (bx (M 0)),.row x6 1 (bx (M 1)),.row x6 1 (bx (M 2)),.cells y9 [.msl 5 1 0 3,.msl 6 1 0 3,.msl 7 1 0 3],.row x6 1 (bx (N 0)),.row x6 1 (bx (N 1)),.row x6 1 (bx (N 2))]⟩) 3 ⟨⟨166,_⟩,_⟩ (z8 [0,1,2,3,4,5,6,7] [4,5,8,59,10,60,122,123,124] rfl) ⟨0,0,M2,N2,rfl,rfl,rfl,rfl⟩ ?_
     rintro n2 s ⟨k,j,M,N,hnk,hj,hMN,rfl⟩
     have hlk:=z2b (r:=3) (c:=C) hC (G:=(M2,N2)) lm2 ln2 k (by omega)
     rw[hMN]at hlk
     obtain⟨m1,m2⟩:=hlk
     have m1:J2 3 M:=m1
     have m2:J2 3 N:=m2
     have hsk:elS C (M2,N2) (k+1)=q1t C k (M,N):=by rw[elS,hMN]
     refine y6 hT ?_
     refine u6 (y8 (u9 (fun h=>?_) (fun h=>?_)))
     ·have h:=k0z (show decide (j<((3:Nat):Int))=true from h)
      refine x7 ?_
      have hk4:k=0∨k=1∨k=2:=by omega
      subst hj
      refine Q4 (fun st=>∃ M' N',elS C (M2,N2) (k+1)=(M',N')∧st=⟨⟨166,[(4,.p (.box F)),(5,.msl 0 1 0 3),(8,.msl 4 1 0 3),(59,i64 3),(10,i64 C),(60,i64 C),(122,.msl 0 1 0 3),(123,i64 3),(124,i64 k)]⟩,[.cells y9 [.msl 1 1 0 3,.msl 2 1 0 3,.msl 3 1 0 3],.row x6 1 (bx (M' 0)),.row x6 1 (bx (M' 1)),.row x6 1 (bx (M' 2)),.cells y9 [.msl 5 1 0 3,.msl 6 1 0 3,.msl 7 1 0 3],.row x6 1 (bx (N' 0)),.row x6 1 (bx (N' 1)),.row x6 1 (bx (N' 2))]⟩) (x3 ?_) ?_
      ·let K:=k
       have hK:K<3:=by show k<3;omega
       have hsk:elS C (M2,N2) (K+1)=q1t C K (M,N):=hsk
       rcases hk4 with rfl|rfl|rfl
       all_goals
        have hg:=q2q (l:=M K) (c:=C) (by rw[m1 K hK];exact hC)
        have hcond:∀ x,(M K).getD C 0=x→q1t C K (M,N)=match !Nat.beq K C&&x != 0 with|true=>(q2p M K (q2b (M K) (M C) x),q2p N K (q2b (N K) (N C) x))|false=>(M,N):=fun x hx=>by subst hx;rfl
        generalize hx:(M K).getD C 0=x at hg
        rw[hcond x hx]at hsk
        clear hcond hx
        have hgx:(bx (M K))[0+((C:Nat):Int).toNat]?=some [u8 x]:=W6 hg
        refine y6 hT ?_
        refine y6 hT ?_
        refine⟨by omega,?_⟩
        refine⟨⟨by omega,by omega⟩,?_⟩
        refine Z2 hgx ?_
        refine y6 hT ?_
        first
         |refine y8 ?_
          exact x7 ⟨_,z8 [0,1,2,3,4,5,6,7] [4,5,8,59,10,60,122,123,124] rfl,M,N,hsk,rfl⟩
         |refine y8 (u9 (fun h=>?_) (fun h=>?_))
          ·have h:(((x.toNat:Nat):Int) != 0)=true:=h
           rw[bne_iff_ne]at h
           have hne:x≠0:=fun e=>h (by rw[e];rfl)
           rw[bne_iff_ne.mpr hne]at hsk
           have w1:=wad (M K) (M C) x (m1 K hK) (m1 C hC)
           have w2:=wad (N K) (N C) x (m2 K hK) (m2 C hC)
           rw[m1 K hK]at w1
           rw[m2 K hK]at w2
           refine u6 ?_
           refine Z0 [10] [] hT u7 (by rfl) ?_
           refine⟨by omega,?_⟩
           refine⟨by omega,?_⟩
           refine⟨_,_,Z7 [1+K,1+C] w1 rfl rfl rfl,?_⟩
           repeat first|refine⟨rfl,?_⟩|refine⟨⟨by omega,rfl⟩,?_⟩
           refine Z0 [10] [] hT u7 (by rfl) ?_
           refine⟨by omega,?_⟩
           refine⟨by omega,?_⟩
           refine⟨_,_,Z7 [5+K,5+C] w2 rfl rfl rfl,?_⟩
           repeat first|refine⟨rfl,?_⟩|refine⟨⟨by omega,rfl⟩,?_⟩
           exact⟨_,z8 [0,1,2,3,4,5,6,7] [4,5,8,59,10,60,122,123,124] rfl,_,_,hsk,rfl⟩
          ·have h:(((x.toNat:Nat):Int) != 0)=false:=h
           rw[bne_eq_false_iff_eq]at h
           have hx0:x=0:=UInt8.toNat_inj.mp (by show x.toNat=0;omega)
           rw[hx0]at hsk
           exact x7 ⟨_,z8 [0,1,2,3,4,5,6,7] [4,5,8,59,10,60,122,123,124] rfl,M,N,hsk,rfl⟩
      ·rintro _ ⟨M',N',hMN',rfl⟩
       refine y7 hT ?_
       exact⟨n2 - 1,by omega,_,z8 [0,1,2,3,4,5,6,7] [4,5,8,59,10,60,122,123,124] rfl,k+1,IntKind.i64.wrap ((k:Int)+1),M',N',by omega,by rw[Q0 _ (by omega) (by omega)];rfl,hMN',rfl⟩
     ·have h:=k0y (show decide (j<((3:Nat):Int))=false from h)
      have hkr:k=3:=by omega
      rw[hkr,← hend]at hMN
      refine Q7 ?_
      exact⟨_,z8 [0,1,2,3,4,5,6,7] [4,5,8,59,60] rfl,M,N,hMN,rfl⟩
   ·rintro _ ⟨M',N',hMN',rfl⟩
    refine y7 hT ?_
    exact⟨n - 1,by omega,_,z8 [0,1,2,3,4,5,6,7] [4,5,8,59,60] rfl,c+1,IntKind.i64.wrap ((c:Int)+1),M',N',by omega,by rw[Q0 _ (by omega) (by omega)];rfl,hMN',rfl⟩
  ·have h:=k0y (show decide (jc<((3:Nat):Int))=false from h)
   rw[show c=3 by omega]at hMN
   obtain rfl:N=(g 3).2:=by rw[hMN]
   refine Q7 ?_
   exact⟨z8 [4,5,6,7] [8] rfl,trivial⟩
 refine y6 hT ?_
 refine u5 ?_
 exact x8 [0,1,2,3] ⟨rfl,rfl⟩ rfl
end Go.Proofs.YtkjklhcfgbaceaaGreat.AL
/- The layer 2 (mat): the inverse of a matrix (printed by geninv.py). -/
namespace Go.Proofs.YtkjklhcfgbaceaaGreat.AL
open Go Go.Proofs
theorem v5p (a0 a1 a2 a3:x9)(hA:∀ s∈([a0,a1,a2,a3]:List x9),s.length=4)(hok:y2f 4 [a0,a1,a2,a3]=true) :
 AF k0q z0e [.p (.sl 1 (w9 [a0,a1,a2,a3]))] [] (Q9 (.tup [.p (.sl 1 (w9 [(gs 4 [a0,a1,a2,a3] 4).2 0,(gs 4 [a0,a1,a2,a3] 4).2 1,(gs 4 [a0,a1,a2,a3] 4).2 2,(gs 4 [a0,a1,a2,a3] 4).2 3])),i64 0]) []):=by
 have hlen:=y2g hok rfl hA
 refine w8s (M:=(gs 4 [a0,a1,a2,a3] 4).2) (n:=4) (hlen 4 (k1v _)).2 ?_
 have hpiv:=fun(c:Nat) (hc:c<4)=>z5v hc (z9w hok hc)
 have wA:=q0i [a0,a1,a2,a3] 4 (show 1≤4 by decide) (show 4≤64 by decide) (by decide) (by decide) hA
 have ha0:a0.length=4:=hA a0 (by simp)
 have hx0:=Z1 a0
 have ha1:a1.length=4:=hA a1 (by simp)
 have hx1:=Z1 a1
 have ha2:a2.length=4:=hA a2 (by simp)
 have hx2:=Z1 a2
 have ha3:a3.length=4:=hA a3 (by simp)
 have hx3:=Z1 a3
 have hstep:∀ c,gs 4 [a0,a1,a2,a3] (c+1)=q3i 4 c (gs 4 [a0,a1,a2,a3] c):=fun _=>rfl
 have hg0:gs 4 [a0,a1,a2,a3] 0=gs0 4 [a0,a1,a2,a3]:=rfl
 generalize gs 4 [a0,a1,a2,a3]=g at hlen hpiv hstep hg0 ⊢
 have wn:=q4p
 have wo:=x8k
 have winv:=y7g
 have wtm:=fun(t:x9) (x:UInt8) (ht:t.length=4)=>z5s t x (by omega)
 have wad:=fun(to row:x9) (x:UInt8) (ht:to.length=4) (hr:row.length=4)=>z9v to row x (by omega) (by omega)
 unfold q3x at wn winv wtm wad
 generalize fP=F at wn winv wtm wad
 refine Q8 hT Tryz.func175 rfl rfl Tryz.ntmps175 rfl ?_
 refine y6 hT ?_
 refine u0 ⟨⟨166,[(0,.p (.sl 1 (w9 [a0,a1,a2,a3])))]⟩,[]⟩ True (y6 hT ?_) (fun _=>?_)
 ·refine Q1 (Q5 wA _ rfl rfl) ?_
  refine⟨by decide,Z2 rfl ?_⟩
  refine y8 (u9 (fun h=>?_) (fun h=>?_))
  ·have h:((((bx a0).length:Nat):Int) != ((4:Nat):Int))=true:=h
   rw[bne_iff_ne]at h
   omega
  exact x7 ⟨z8 [] [0] rfl,trivial⟩
 refine y6 hT ?_
 refine Q1 (Q5 wn _ rfl rfl) ?_
 refine u0 ⟨⟨166,[(0,.p (.sl 1 (w9 [a0,a1,a2,a3]))),(4,.p (.box F)),(5,.msl 0 1 0 4)]⟩,[.cells y9 [.p (.raw (.slice none 0 0)),.p (.raw (.slice none 0 0)),.p (.raw (.slice none 0 0)),.p (.raw (.slice none 0 0))]]⟩ True (y7 hT ?_) (fun _=>?_)
 ·refine⟨⟨rfl,(show (0:Int)≤((4:Nat):Int) by decide),(show ((4:Nat):Int)*24≤140737488355328 by decide),(show ((4:Nat):Int)≤140737488355328 by decide)⟩,?_⟩
  exact⟨Wk.trans (q0k 0 [.raw (.slice none 0 0),.raw (.slice none 0 0),.raw (.slice none 0 0),.raw (.slice none 0 0)] rfl rfl (by decide)) (z8 [0] [0,4,5] rfl),trivial⟩
 refine u0 ⟨⟨166,[(0,.p (.sl 1 (w9 [a0,a1,a2,a3]))),(4,.p (.box F)),(5,.msl 0 1 0 4)]⟩,[.cells y9 [.msl 1 1 0 4,.msl 2 1 0 4,.msl 3 1 0 4,.msl 4 1 0 4],.row x6 1 (bx a0),.row x6 1 (bx a1),.row x6 1 (bx a2),.row x6 1 (bx a3)]⟩ True (y6 hT ?_) (fun _=>?_)
 ·refine x3 ?_
  refine Q3 (fun n s=>(n=4∧s=⟨⟨166,[(0,.p (.sl 1 (w9 [a0,a1,a2,a3]))),(4,.p (.box F)),(5,.msl 0 1 0 4),(32,.p (.sl 1 (w9 [a0,a1,a2,a3]))),(33,i64 4),(34,i64 0)]⟩,[.cells y9 [.p (.raw (.slice none 0 0)),.p (.raw (.slice none 0 0)),.p (.raw (.slice none 0 0)),.p (.raw (.slice none 0 0))]]⟩)∨(n=3∧s=⟨⟨166,[(0,.p (.sl 1 (w9 [a0,a1,a2,a3]))),(4,.p (.box F)),(5,.msl 0 1 0 4),(32,.p (.sl 1 (w9 [a0,a1,a2,a3]))),(33,i64 4),(34,i64 1)]⟩,[.cells y9 [.msl 1 1 0 4,.p (.raw (.slice none 0 0)),.p (.raw (.slice none 0 0)),.p (.raw (.slice none 0 0))],.row x6 1 (bx a0)]⟩)∨(n=2∧s=⟨⟨166,[(0,.p (.sl 1 (w9 [a0,a1,a2,a3]))),(4,.p (.box F)),(5,.msl 0 1 0 4),(32,.p (.sl 1 (w9 [a0,a1,a2,a3]))),(33,i64 4),(34,i64 2)]⟩,[.cells y9 [.msl 1 1 0 4,.msl 2 1 0 4,.p (.raw (.slice none 0 0)),.p (.raw (.slice none 0 0))],.row x6 1 (bx a0),.row x6 1 (bx a1)]⟩)∨(n=1∧s=⟨⟨166,[(0,.p (.sl 1 (w9 [a0,a1,a2,a3]))),(4,.p (.box F)),(5,.msl 0 1 0 4),(32,.p (.sl 1 (w9 [a0,a1,a2,a3]))),(33,i64 4),(34,i64 3)]⟩,[.cells y9 [.msl 1 1 0 4,.msl 2 1 0 4,.msl 3 1 0 4,.p (.raw (.slice none 0 0))],.row x6 1 (bx a0),.row x6 1 (bx a1),.row x6 1 (bx a2)]⟩)∨(n=0∧s=⟨⟨166,[(0,.p (.sl 1 (w9 [a0,a1,a2,a3]))),(4,.p (.box F)),(5,.msl 0 1 0 4),(32,.p (.sl 1 (w9 [a0,a1,a2,a3]))),(33,i64 4),(34,i64 4)]⟩,[.cells y9 [.msl 1 1 0 4,.msl 2 1 0 4,.msl 3 1 0 4,.msl 4 1 0 4],.row x6 1 (bx a0),.row x6 1 (bx a1),.row x6 1 (bx a2),.row x6 1 (bx a3)]⟩)) 4 ⟨⟨166,_⟩,_⟩ (z8 [0] [0,4,5,32,33,34] rfl) (.inl ⟨rfl,rfl⟩) ?_
  rintro n s (⟨rfl,rfl⟩|⟨rfl,rfl⟩|⟨rfl,rfl⟩|⟨rfl,rfl⟩|⟨rfl,rfl⟩)
  ·refine y6 hT ?_
   refine u6 (y8 ?_)
   refine x7 ?_
   refine Q4 (fun st=>∃ Y,Y=bx a0∧st=⟨⟨166,[(0,.p (.sl 1 (w9 [a0,a1,a2,a3]))),(4,.p (.box F)),(5,.msl 0 1 0 4),(32,.p (.sl 1 (w9 [a0,a1,a2,a3]))),(33,i64 4),(34,i64 0)]⟩,[.cells y9 [.msl 1 1 0 4,.p (.raw (.slice none 0 0)),.p (.raw (.slice none 0 0)),.p (.raw (.slice none 0 0))],.row x6 1 (Y)]⟩) (x3 ?_) ?_
   ·refine y6 hT ?_
    refine⟨by decide,Z2 rfl ?_⟩
    refine Q4 (fun st=>∃ (m:Nat) (X:List (List PV)),m=4∧X.length=4∧st=⟨⟨166,[(0,.p (.sl 1 (w9 [a0,a1,a2,a3]))),(4,.p (.box F)),(5,.msl 0 1 0 4),(32,.p (.sl 1 (w9 [a0,a1,a2,a3]))),(33,i64 4),(34,i64 0),(6,i64 0),(7,bA a0)]⟩,[.cells y9 [.msl 1 1 0 m,.p (.raw (.slice none 0 0)),.p (.raw (.slice none 0 0)),.p (.raw (.slice none 0 0))],.row x6 1 (X)]⟩) (y7 hT ?_) ?_
    ·refine⟨⟨rfl,by omega,by show (((bx a0).length:Nat):Int)*1≤_;omega,by omega⟩,?_⟩
     refine⟨by decide,?_⟩
     exact⟨_,z8 [0,1] [0,4,5,32,33,34,6,7] rfl,_,_,(by rw[k0u];omega),(by rw[k2z,k0u];omega),rfl⟩
    rintro _ ⟨m,X,rfl,hX,rfl⟩
    refine y7 hT ?_
    refine⟨by decide,?_⟩
    refine⟨⟨by omega,by omega⟩,?_⟩
    refine⟨_,z8 [0,1] [0,4,5,32,33,34] rfl,_,?_,rfl⟩
    exact q4e (by omega)
   ·rintro _ ⟨Y,rfl,rfl⟩
    refine y7 hT ?_
    exact⟨3,by decide,_,z8 [0,1] [0,4,5,32,33,34] rfl,(.inr (.inl ⟨rfl,rfl⟩))⟩
  ·refine y6 hT ?_
   refine u6 (y8 ?_)
   refine x7 ?_
   refine Q4 (fun st=>∃ Y,Y=bx a1∧st=⟨⟨166,[(0,.p (.sl 1 (w9 [a0,a1,a2,a3]))),(4,.p (.box F)),(5,.msl 0 1 0 4),(32,.p (.sl 1 (w9 [a0,a1,a2,a3]))),(33,i64 4),(34,i64 1)]⟩,[.cells y9 [.msl 1 1 0 4,.msl 2 1 0 4,.p (.raw (.slice none 0 0)),.p (.raw (.slice none 0 0))],.row x6 1 (bx a0),.row x6 1 (Y)]⟩) (x3 ?_) ?_
   ·refine y6 hT ?_
    refine⟨by decide,Z2 rfl ?_⟩
    refine Q4 (fun st=>∃ (m:Nat) (X:List (List PV)),m=4∧X.length=4∧st=⟨⟨166,[(0,.p (.sl 1 (w9 [a0,a1,a2,a3]))),(4,.p (.box F)),(5,.msl 0 1 0 4),(32,.p (.sl 1 (w9 [a0,a1,a2,a3]))),(33,i64 4),(34,i64 1),(6,i64 1),(7,bA a1)]⟩,[.cells y9 [.msl 1 1 0 4,.msl 2 1 0 m,.p (.raw (.slice none 0 0)),.p (.raw (.slice none 0 0))],.row x6 1 (bx a0),.row x6 1 (X)]⟩) (y7 hT ?_) ?_
    ·refine⟨⟨rfl,by omega,by show (((bx a1).length:Nat):Int)*1≤_;omega,by omega⟩,?_⟩
     refine⟨by decide,?_⟩
     exact⟨_,z8 [0,1,2] [0,4,5,32,33,34,6,7] rfl,_,_,(by rw[k0u];omega),(by rw[k2z,k0u];omega),rfl⟩
    rintro _ ⟨m,X,rfl,hX,rfl⟩
    refine y7 hT ?_
    refine⟨by decide,?_⟩
    refine⟨⟨by omega,by omega⟩,?_⟩
    refine⟨_,z8 [0,1,2] [0,4,5,32,33,34] rfl,_,?_,rfl⟩
    exact q4e (by omega)
   ·rintro _ ⟨Y,rfl,rfl⟩
    refine y7 hT ?_
    exact⟨2,by decide,_,z8 [0,1,2] [0,4,5,32,33,34] rfl,(.inr (.inr (.inl ⟨rfl,rfl⟩)))⟩
  ·refine y6 hT ?_
   refine u6 (y8 ?_)
   refine x7 ?_
   refine Q4 (fun st=>∃ Y,Y=bx a2∧st=⟨⟨166,[(0,.p (.sl 1 (w9 [a0,a1,a2,a3]))),(4,.p (.box F)),(5,.msl 0 1 0 4),(32,.p (.sl 1 (w9 [a0,a1,a2,a3]))),(33,i64 4),(34,i64 2)]⟩,[.cells y9 [.msl 1 1 0 4,.msl 2 1 0 4,.msl 3 1 0 4,.p (.raw (.slice none 0 0))],.row x6 1 (bx a0),.row x6 1 (bx a1),.row x6 1 (Y)]⟩) (x3 ?_) ?_
   ·refine y6 hT ?_
    refine⟨by decide,Z2 rfl ?_⟩
    refine Q4 (fun st=>∃ (m:Nat) (X:List (List PV)),m=4∧X.length=4∧st=⟨⟨166,[(0,.p (.sl 1 (w9 [a0,a1,a2,a3]))),(4,.p (.box F)),(5,.msl 0 1 0 4),(32,.p (.sl 1 (w9 [a0,a1,a2,a3]))),(33,i64 4),(34,i64 2),(6,i64 2),(7,bA a2)]⟩,[.cells y9 [.msl 1 1 0 4,.msl 2 1 0 4,.msl 3 1 0 m,.p (.raw (.slice none 0 0))],.row x6 1 (bx a0),.row x6 1 (bx a1),.row x6 1 (X)]⟩) (y7 hT ?_) ?_
    ·refine⟨⟨rfl,by omega,by show (((bx a2).length:Nat):Int)*1≤_;omega,by omega⟩,?_⟩
     refine⟨by decide,?_⟩
     exact⟨_,z8 [0,1,2,3] [0,4,5,32,33,34,6,7] rfl,_,_,(by rw[k0u];omega),(by rw[k2z,k0u];omega),rfl⟩
    rintro _ ⟨m,X,rfl,hX,rfl⟩
    refine y7 hT ?_
    refine⟨by decide,?_⟩
    refine⟨⟨by omega,by omega⟩,?_⟩
    refine⟨_,z8 [0,1,2,3] [0,4,5,32,33,34] rfl,_,?_,rfl⟩
    exact q4e (by omega)
   ·rintro _ ⟨Y,rfl,rfl⟩
    refine y7 hT ?_
    exact⟨1,by decide,_,z8 [0,1,2,3] [0,4,5,32,33,34] rfl,(.inr (.inr (.inr (.inl ⟨rfl,rfl⟩))))⟩
  ·refine y6 hT ?_
   refine u6 (y8 ?_)
   refine x7 ?_
   refine Q4 (fun st=>∃ Y,Y=bx a3∧st=⟨⟨166,[(0,.p (.sl 1 (w9 [a0,a1,a2,a3]))),(4,.p (.box F)),(5,.msl 0 1 0 4),(32,.p (.sl 1 (w9 [a0,a1,a2,a3]))),(33,i64 4),(34,i64 3)]⟩,[.cells y9 [.msl 1 1 0 4,.msl 2 1 0 4,.msl 3 1 0 4,.msl 4 1 0 4],.row x6 1 (bx a0),.row x6 1 (bx a1),.row x6 1 (bx a2),.row x6 1 (Y)]⟩) (x3 ?_) ?_
   ·refine y6 hT ?_
    refine⟨by decide,Z2 rfl ?_⟩
    refine Q4 (fun st=>∃ (m:Nat) (X:List (List PV)),m=4∧X.length=4∧st=⟨⟨166,[(0,.p (.sl 1 (w9 [a0,a1,a2,a3]))),(4,.p (.box F)),(5,.msl 0 1 0 4),(32,.p (.sl 1 (w9 [a0,a1,a2,a3]))),(33,i64 4),(34,i64 3),(6,i64 3),(7,bA a3)]⟩,[.cells y9 [.msl 1 1 0 4,.msl 2 1 0 4,.msl 3 1 0 4,.msl 4 1 0 m],.row x6 1 (bx a0),.row x6 1 (bx a1),.row x6 1 (bx a2),.row x6 1 (X)]⟩) (y7 hT ?_) ?_
    ·refine⟨⟨rfl,by omega,by show (((bx a3).length:Nat):Int)*1≤_;omega,by omega⟩,?_⟩
     refine⟨by decide,?_⟩
     exact⟨_,z8 [0,1,2,3,4] [0,4,5,32,33,34,6,7] rfl,_,_,(by rw[k0u];omega),(by rw[k2z,k0u];omega),rfl⟩
    rintro _ ⟨m,X,rfl,hX,rfl⟩
    refine y7 hT ?_
    refine⟨by decide,?_⟩
    refine⟨⟨by omega,by omega⟩,?_⟩
    refine⟨_,z8 [0,1,2,3,4] [0,4,5,32,33,34] rfl,_,?_,rfl⟩
    exact q4e (by omega)
   ·rintro _ ⟨Y,rfl,rfl⟩
    refine y7 hT ?_
    exact⟨0,by decide,_,z8 [0,1,2,3,4] [0,4,5,32,33,34] rfl,(.inr (.inr (.inr (.inr ⟨rfl,rfl⟩))))⟩
  ·refine y6 hT ?_
   refine u6 (y8 ?_)
   refine Q7 ?_
   exact⟨z8 [0,1,2,3,4] [0,4,5] rfl,trivial⟩
 refine u0 ⟨⟨166,[(4,.p (.box F)),(5,.msl 0 1 0 4),(8,.msl 5 1 0 4)]⟩,[.cells y9 [.msl 1 1 0 4,.msl 2 1 0 4,.msl 3 1 0 4,.msl 4 1 0 4],.row x6 1 (bx ((g 0).1 0)),.row x6 1 (bx ((g 0).1 1)),.row x6 1 (bx ((g 0).1 2)),.row x6 1 (bx ((g 0).1 3)),.cells y9 [.msl 6 1 0 4,.msl 7 1 0 4,.msl 8 1 0 4,.msl 9 1 0 4],.row x6 1 (bx ((g 0).2 0)),.row x6 1 (bx ((g 0).2 1)),.row x6 1 (bx ((g 0).2 2)),.row x6 1 (bx ((g 0).2 3))]⟩ True (y7 hT ?_) (fun _=>?_)
 ·refine Q1 (q1h wo _ rfl) ?_
  rw[hg0]
  exact⟨z8 [0,1,2,3,4,5,6,7,8,9] [4,5,8] rfl,trivial⟩
 refine u0 ⟨⟨166,[(8,.msl 0 1 0 4)]⟩,[.cells y9 [.msl 1 1 0 4,.msl 2 1 0 4,.msl 3 1 0 4,.msl 4 1 0 4],.row x6 1 (bx ((g 4).2 0)),.row x6 1 (bx ((g 4).2 1)),.row x6 1 (bx ((g 4).2 2)),.row x6 1 (bx ((g 4).2 3))]⟩ True (y6 hT ?_) (fun _=>?_)
 ·refine x3 ?_
  refine Q3 (fun n s=>∃ (c:Nat) (jc:Int) (M N:U5),n+c=4∧jc=c∧g c=(M,N)∧s=⟨⟨166,[(4,.p (.box F)),(5,.msl 0 1 0 4),(8,.msl 5 1 0 4),(59,i64 4),(60,i64 jc)]⟩,[.cells y9 [.msl 1 1 0 4,.msl 2 1 0 4,.msl 3 1 0 4,.msl 4 1 0 4],.row x6 1 (bx (M 0)),.row x6 1 (bx (M 1)),.row x6 1 (bx (M 2)),.row x6 1 (bx (M 3)),.cells y9 [.msl 6 1 0 4,.msl 7 1 0 4,.msl 8 1 0 4,.msl 9 1 0 4],.row x6 1 (bx (N 0)),.row x6 1 (bx (N 1)),.row x6 1 (bx (N 2)),.row x6 1 (bx (N 3))]⟩) 4 ⟨⟨166,_⟩,_⟩ (z8 [0,1,2,3,4,5,6,7,8,9] [4,5,8,59,60] rfl) ⟨0,0,(g 0).1,(g 0).2,rfl,rfl,rfl,rfl⟩ ?_
  rintro n s ⟨c,jc,M,N,hnc,hjc,hMN,rfl⟩
  refine y6 hT ?_
  refine u6 (y8 (u9 (fun h=>?_) (fun h=>?_)))
  ·have h:=k0z (show decide (jc<((4:Nat):Int))=true from h)
   refine x7 ?_
   subst hjc
   have hcr:c<4:=by omega
   have hc4:c=0∨c=1∨c=2∨c=3:=by omega
   obtain⟨p,p1,p2,p3,p4⟩:=hpiv c hcr
   obtain⟨l1,l2⟩:=hlen c (Nat.le_of_lt hcr)
   have hs:=hstep c
   rw[hMN]at p1 p4 l1 l2 hs
   let C:=c
   have hC:C<4:=hcr
   have l1:J2 4 M:=l1
   have l2:J2 4 N:=l2
   have p1:q2c M 4 C=p:=p1
   have p2:C≤p:=p2
   have p4:(M p).getD C 0≠0:=p4
   have hs:g (C+1)=q3i 4 C (M,N):=hs
   have wp:=w3k M l1 C hC
   rw[p1]at wp
   clear hMN
   refine Q4 (fun st=>∃ M' N',g (C+1)=(M',N')∧st=⟨⟨166,[(4,.p (.box F)),(5,.msl 0 1 0 4),(8,.msl 5 1 0 4),(59,i64 4),(60,i64 C)]⟩,[.cells y9 [.msl 1 1 0 4,.msl 2 1 0 4,.msl 3 1 0 4,.msl 4 1 0 4],.row x6 1 (bx (M' 0)),.row x6 1 (bx (M' 1)),.row x6 1 (bx (M' 2)),.row x6 1 (bx (M' 3)),.cells y9 [.msl 6 1 0 4,.msl 7 1 0 4,.msl 8 1 0 4,.msl 9 1 0 4],.row x6 1 (bx (N' 0)),.row x6 1 (bx (N' 1)),.row x6 1 (bx (N' 2)),.row x6 1 (bx (N' 3))]⟩) (x3 ?_) ?_
   ·rcases hc4 with rfl|rfl|rfl|rfl
    all_goals
     refine y6 hT ?_
     refine u0 ⟨⟨166,[(4,.p (.box F)),(5,.msl 0 1 0 4),(8,.msl 5 1 0 4),(59,i64 4),(10,i64 C),(60,i64 C),(11,i64 p)]⟩,[.cells y9 [.msl 1 1 0 4,.msl 2 1 0 4,.msl 3 1 0 4,.msl 4 1 0 4],.row x6 1 (bx (M 0)),.row x6 1 (bx (M 1)),.row x6 1 (bx (M 2)),.row x6 1 (bx (M 3)),.cells y9 [.msl 6 1 0 4,.msl 7 1 0 4,.msl 8 1 0 4,.msl 9 1 0 4],.row x6 1 (bx (N 0)),.row x6 1 (bx (N 1)),.row x6 1 (bx (N 2)),.row x6 1 (bx (N 3))]⟩ True (y7 hT ?_) (fun _=>?_)
     ·refine Q1 (Z7 [0,1,2,3,4] wp rfl rfl rfl) ?_
      exact⟨z8 [0,1,2,3,4,5,6,7,8,9] [4,5,8,59,10,60,11] rfl,trivial⟩
     refine u0 ⟨⟨166,[(4,.p (.box F)),(5,.msl 0 1 0 4),(8,.msl 5 1 0 4),(59,i64 4),(10,i64 C),(60,i64 C),(11,i64 p)]⟩,[.cells y9 [.msl 1 1 0 4,.msl 2 1 0 4,.msl 3 1 0 4,.msl 4 1 0 4],.row x6 1 (bx (M 0)),.row x6 1 (bx (M 1)),.row x6 1 (bx (M 2)),.row x6 1 (bx (M 3)),.cells y9 [.msl 6 1 0 4,.msl 7 1 0 4,.msl 8 1 0 4,.msl 9 1 0 4],.row x6 1 (bx (N 0)),.row x6 1 (bx (N 1)),.row x6 1 (bx (N 2)),.row x6 1 (bx (N 3))]⟩ True (y6 hT ?_) (fun _=>?_)
     ·refine y8 ?_
      exact x7 ⟨z8 [0,1,2,3,4,5,6,7,8,9] [4,5,8,59,10,60,11] rfl,trivial⟩
     have hp:p=0∨p=1∨p=2∨p=3:=by omega
     refine Q4 (fun st=>∃ M1,M1=swp M C p∧st=⟨⟨166,[(4,.p (.box F)),(5,.msl 0 1 0 4),(8,.msl 5 1 0 4),(59,i64 4),(10,i64 C),(60,i64 C),(11,i64 p)]⟩,[.cells y9 [.msl 1 1 0 4,.msl 2 1 0 4,.msl 3 1 0 4,.msl 4 1 0 4],.row x6 1 (bx (M1 0)),.row x6 1 (bx (M1 1)),.row x6 1 (bx (M1 2)),.row x6 1 (bx (M1 3)),.cells y9 [.msl 6 1 0 4,.msl 7 1 0 4,.msl 8 1 0 4,.msl 9 1 0 4],.row x6 1 (bx (N 0)),.row x6 1 (bx (N 1)),.row x6 1 (bx (N 2)),.row x6 1 (bx (N 3))]⟩) ?_ ?_
     ·let P:=p
      rcases hp with rfl|rfl|rfl|rfl
      all_goals
       refine Z0 [13,15] [] hT u7 (by rfl) ?_
       refine⟨by omega,?_⟩
       refine⟨by omega,?_⟩
       refine⟨by omega,?_⟩
       refine⟨by omega,?_⟩
       repeat first|refine⟨rfl,?_⟩|refine⟨⟨by omega,rfl⟩,?_⟩
       exact⟨_,z8 [0,sw C P 0,sw C P 1,sw C P 2,sw C P 3,5,6,7,8,9] [4,5,8,59,10,60,11] rfl,swp M C P,rfl,rfl⟩
     rintro _ ⟨M1,hM1,rfl⟩
     refine Q4 (fun st=>∃ N1,N1=swp N C p∧st=⟨⟨166,[(4,.p (.box F)),(5,.msl 0 1 0 4),(8,.msl 5 1 0 4),(59,i64 4),(10,i64 C),(60,i64 C)]⟩,[.cells y9 [.msl 1 1 0 4,.msl 2 1 0 4,.msl 3 1 0 4,.msl 4 1 0 4],.row x6 1 (bx (M1 0)),.row x6 1 (bx (M1 1)),.row x6 1 (bx (M1 2)),.row x6 1 (bx (M1 3)),.cells y9 [.msl 6 1 0 4,.msl 7 1 0 4,.msl 8 1 0 4,.msl 9 1 0 4],.row x6 1 (bx (N1 0)),.row x6 1 (bx (N1 1)),.row x6 1 (bx (N1 2)),.row x6 1 (bx (N1 3))]⟩) ?_ ?_
     ·let P:=p
      rcases hp with rfl|rfl|rfl|rfl
      all_goals
       refine Z0 [13,15] [] hT u7 (by rfl) ?_
       refine⟨by omega,?_⟩
       refine⟨by omega,?_⟩
       refine⟨by omega,?_⟩
       refine⟨by omega,?_⟩
       repeat first|refine⟨rfl,?_⟩|refine⟨⟨by omega,rfl⟩,?_⟩
       exact⟨_,z8 [0,1,2,3,4,5,5+sw C P 0,5+sw C P 1,5+sw C P 2,5+sw C P 3] [4,5,8,59,10,60] rfl,swp N C P,rfl,rfl⟩
     rintro _ ⟨N1,hN1,rfl⟩
     have hsw:q9z 4 C (M,N)=(M1,N1):=by
      show (swp M C (q2c M 4 C).toNat,swp N C (q2c M 4 C).toNat)=_
      rw[p1,k0u,← hM1,← hN1]
     have lm:J2 4 M1:=by rw[hM1];exact q2v l1 hC p3
     have ln:J2 4 N1:=by rw[hN1];exact q2v l2 hC p3
     have hv0:(M1 C).getD C 0≠0:=by rw[hM1,x4n];exact p4
     have hM1c:=lm C hC
     have hN1c:=ln C hC
     have hcc:=q2q (l:=M1 C) (c:=C) (by rw[hM1c];exact hC)
     have htm:z5u C (M1,N1)=(q2p M1 C (q1s (Gf.inv ((M1 C).getD C 0)) (M1 C)),q2p N1 C (q1s (Gf.inv ((M1 C).getD C 0)) (N1 C))):=rfl
     have wi:=winv _ hv0
     generalize (M1 C).getD C 0=v at hcc wi htm
     generalize Gf.inv v=by_ at wi htm
     have hcx:(bx (M1 C))[0+((C:Nat):Int).toNat]?=some [u8 v]:=W6 hcc
     have w1:=wtm (M1 C) by_ hM1c
     have w2:=wtm (N1 C) by_ hN1c
     rw[hM1c]at w1
     rw[hN1c]at w2
     refine u0 ⟨⟨166,[(4,.p (.box F)),(5,.msl 0 1 0 4),(8,.msl 5 1 0 4),(59,i64 4),(10,i64 C),(60,i64 C),(12,.p (u8 by_))]⟩,[.cells y9 [.msl 1 1 0 4,.msl 2 1 0 4,.msl 3 1 0 4,.msl 4 1 0 4],.row x6 1 (bx (M1 0)),.row x6 1 (bx (M1 1)),.row x6 1 (bx (M1 2)),.row x6 1 (bx (M1 3)),.cells y9 [.msl 6 1 0 4,.msl 7 1 0 4,.msl 8 1 0 4,.msl 9 1 0 4],.row x6 1 (bx (N1 0)),.row x6 1 (bx (N1 1)),.row x6 1 (bx (N1 2)),.row x6 1 (bx (N1 3))]⟩ True (y7 hT ?_) (fun _=>?_)
     ·refine⟨by omega,?_⟩
      refine⟨⟨by omega,by omega⟩,?_⟩
      refine Z2 hcx ?_
      refine Q1 (Q5 wi _ rfl rfl) ?_
      exact⟨z8 [0,1,2,3,4,5,6,7,8,9] [4,5,8,59,10,60,12] rfl,trivial⟩
     obtain⟨M2,hM2⟩:∃ M2,M2=q2p M1 C (q1s by_ (M1 C)):=⟨_,rfl⟩
     obtain⟨N2,hN2⟩:∃ N2,N2=q2p N1 C (q1s by_ (N1 C)):=⟨_,rfl⟩
     rw[← hM2,← hN2]at htm
     have lm2:J2 4 M2:=by rw[hM2];exact q1p lm C (by rw[q0w];exact hM1c)
     have ln2:J2 4 N2:=by rw[hN2];exact q1p ln C (by rw[q0w];exact hN1c)
     refine u0 ⟨⟨166,[(4,.p (.box F)),(5,.msl 0 1 0 4),(8,.msl 5 1 0 4),(59,i64 4),(10,i64 C),(60,i64 C),(12,.p (u8 by_))]⟩,[.cells y9 [.msl 1 1 0 4,.msl 2 1 0 4,.msl 3 1 0 4,.msl 4 1 0 4],.row x6 1 (bx (M2 0)),.row x6 1 (bx (M2 1)),.row x6 1 (bx (M2 2)),.row x6 1 (bx (M2 3)),.cells y9 [.msl 6 1 0 4,.msl 7 1 0 4,.msl 8 1 0 4,.msl 9 1 0 4],.row x6 1 (bx (N1 0)),.row x6 1 (bx (N1 1)),.row x6 1 (bx (N1 2)),.row x6 1 (bx (N1 3))]⟩ True (y7 hT ?_) (fun _=>?_)
     ·refine⟨by omega,?_⟩
      refine Q1 (Z7 [1+C] w1 rfl rfl rfl) ?_
      rw[hM2]
      exact⟨z8 [0,1,2,3,4,5,6,7,8,9] [4,5,8,59,10,60,12] rfl,trivial⟩
     refine u0 ⟨⟨166,[(4,.p (.box F)),(5,.msl 0 1 0 4),(8,.msl 5 1 0 4),(59,i64 4),(10,i64 C),(60,i64 C)]⟩,[.cells y9 [.msl 1 1 0 4,.msl 2 1 0 4,.msl 3 1 0 4,.msl 4 1 0 4],.row x6 1 (bx (M2 0)),.row x6 1 (bx (M2 1)),.row x6 1 (bx (M2 2)),.row x6 1 (bx (M2 3)),.cells y9 [.msl 6 1 0 4,.msl 7 1 0 4,.msl 8 1 0 4,.msl 9 1 0 4],.row x6 1 (bx (N2 0)),.row x6 1 (bx (N2 1)),.row x6 1 (bx (N2 2)),.row x6 1 (bx (N2 3))]⟩ True (y7 hT ?_) (fun _=>?_)
     ·refine⟨by omega,?_⟩
      refine Q1 (Z7 [6+C] w2 rfl rfl rfl) ?_
      rw[hN2]
      exact⟨z8 [0,1,2,3,4,5,6,7,8,9] [4,5,8,59,10,60] rfl,trivial⟩
     have hend:g (C+1)=elS C (M2,N2) 4:=by rw[hs];unfold q3i;rw[hsw,htm]
     clear w1 w2 wi hM1 hN1 hM2 hN2 hsw htm hs lm ln hcc hcx hv0 hM1c hN1c wp p1 p2 p3 p4 l1 l2 hp
     refine y6 hT ?_
     refine x3 ?_
     refine Q3 (fun n s=>∃ (k:Nat) (j:Int) (M N:U5),n+k=4∧j=k∧elS C (M2,N2) k=(M,N)∧s=⟨⟨166,[(4,.p (.box F)),(5,.msl 0 1 0 4),(8,.msl 5 1 0 4),(59,i64 4),(10,i64 C),(60,i64 C),(122,.msl 0 1 0 4),(123,i64 4),(124,i64 j)]⟩,[.cells y9 [.msl 1 1 0 4,.msl 2 1 0 4,.msl 3 1 0 4,.msl 4 1 0 4],.row x6 1 (bx (M 0)),.row x6 1 (bx (M 1)),.row x6 1 (bx (M 2)),.row x6 1 (bx (M 3)),.cells y9 [.msl 6 1 0 4,.msl 7 1 0 4,.msl 8 1 0 4,.msl 9 1 0 4],.row x6 1 (bx (N 0)),.row x6 1 (bx (N 1)),.row x6 1 (bx (N 2)),.row x6 1 (bx (N 3))]⟩) 4 ⟨⟨166,_⟩,_⟩ (z8 [0,1,2,3,4,5,6,7,8,9] [4,5,8,59,10,60,122,123,124] rfl) ⟨0,0,M2,N2,rfl,rfl,rfl,rfl⟩ ?_
     rintro n2 s ⟨k,j,M,N,hnk,hj,hMN,rfl⟩
     have hlk:=z2b (r:=4) (c:=C) hC (G:=(M2,N2)) lm2 ln2 k (by omega)
     rw[hMN]at hlk
     obtain⟨m1,m2⟩:=hlk
     have m1:J2 4 M:=m1
     have m2:J2 4 N:=m2
     have hsk:elS C (M2,N2) (k+1)=q1t C k (M,N):=by rw[elS,hMN]
     refine y6 hT ?_
     refine u6 (y8 (u9 (fun h=>?_) (fun h=>?_)))
     ·have h:=k0z (show decide (j<((4:Nat):Int))=true from h)
      refine x7 ?_
      have hk4:k=0∨k=1∨k=2∨k=3:=by omega
      subst hj
      refine Q4 (fun st=>∃ M' N',elS C (M2,N2) (k+1)=(M',N')∧st=⟨⟨166,[(4,.p (.box F)),(5,.msl 0 1 0 4),(8,.msl 5 1 0 4),(59,i64 4),(10,i64 C),(60,i64 C),(122,.msl 0 1 0 4),(123,i64 4),(124,i64 k)]⟩,[.cells y9 [.msl 1 1 0 4,.msl 2 1 0 4,.msl 3 1 0 4,.msl 4 1 0 4],.row x6 1 (bx (M' 0)),.row x6 1 (bx (M' 1)),.row x6 1 (bx (M' 2)),.row x6 1 (bx (M' 3)),.cells y9 [.msl 6 1 0 4,.msl 7 1 0 4,.msl 8 1 0 4,.msl 9 1 0 4],.row x6 1 (bx (N' 0)),.row x6 1 (bx (N' 1)),.row x6 1 (bx (N' 2)),.row x6 1 (bx (N' 3))]⟩) (x3 ?_) ?_
      ·let K:=k
       have hK:K<4:=by show k<4;omega
       have hsk:elS C (M2,N2) (K+1)=q1t C K (M,N):=hsk
       rcases hk4 with rfl|rfl|rfl|rfl
       all_goals
        have hg:=q2q (l:=M K) (c:=C) (by rw[m1 K hK];exact hC)
        have hcond:∀ x,(M K).getD C 0=x→q1t C K (M,N)=match !Nat.beq K C&&x != 0 with|true=>(q2p M K (q2b (M K) (M C) x),q2p N K (q2b (N K) (N C) x))|false=>(M,N):=fun x hx=>by subst hx;rfl
        generalize hx:(M K).getD C 0=x at hg
        rw[hcond x hx]at hsk
        clear hcond hx
        have hgx:(bx (M K))[0+((C:Nat):Int).toNat]?=some [u8 x]:=W6 hg
        refine y6 hT ?_
        refine y6 hT ?_
        refine⟨by omega,?_⟩
        refine⟨⟨by omega,by omega⟩,?_⟩
        refine Z2 hgx ?_
        refine y6 hT ?_
        first
         |refine y8 ?_
          exact x7 ⟨_,z8 [0,1,2,3,4,5,6,7,8,9] [4,5,8,59,10,60,122,123,124] rfl,M,N,hsk,rfl⟩
         |refine y8 (u9 (fun h=>?_) (fun h=>?_))
          ·have h:(((x.toNat:Nat):Int) != 0)=true:=h
           rw[bne_iff_ne]at h
           have hne:x≠0:=fun e=>h (by rw[e];rfl)
           rw[bne_iff_ne.mpr hne]at hsk
           have w1:=wad (M K) (M C) x (m1 K hK) (m1 C hC)
           have w2:=wad (N K) (N C) x (m2 K hK) (m2 C hC)
           rw[m1 K hK]at w1
           rw[m2 K hK]at w2
           refine u6 ?_
           refine Z0 [10] [] hT u7 (by rfl) ?_
           refine⟨by omega,?_⟩
           refine⟨by omega,?_⟩
           refine⟨_,_,Z7 [1+K,1+C] w1 rfl rfl rfl,?_⟩
           repeat first|refine⟨rfl,?_⟩|refine⟨⟨by omega,rfl⟩,?_⟩
           refine Z0 [10] [] hT u7 (by rfl) ?_
           refine⟨by omega,?_⟩
           refine⟨by omega,?_⟩
           refine⟨_,_,Z7 [6+K,6+C] w2 rfl rfl rfl,?_⟩
           repeat first|refine⟨rfl,?_⟩|refine⟨⟨by omega,rfl⟩,?_⟩
           exact⟨_,z8 [0,1,2,3,4,5,6,7,8,9] [4,5,8,59,10,60,122,123,124] rfl,_,_,hsk,rfl⟩
          ·have h:(((x.toNat:Nat):Int) != 0)=false:=h
           rw[bne_eq_false_iff_eq]at h
           have hx0:x=0:=UInt8.toNat_inj.mp (by show x.toNat=0;omega)
           rw[hx0]at hsk
           exact x7 ⟨_,z8 [0,1,2,3,4,5,6,7,8,9] [4,5,8,59,10,60,122,123,124] rfl,M,N,hsk,rfl⟩
      ·rintro _ ⟨M',N',hMN',rfl⟩
       refine y7 hT ?_
       exact⟨n2 - 1,by omega,_,z8 [0,1,2,3,4,5,6,7,8,9] [4,5,8,59,10,60,122,123,124] rfl,k+1,IntKind.i64.wrap ((k:Int)+1),M',N',by omega,by rw[Q0 _ (by omega) (by omega)];rfl,hMN',rfl⟩
     ·have h:=k0y (show decide (j<((4:Nat):Int))=false from h)
      have hkr:k=4:=by omega
      rw[hkr,← hend]at hMN
      refine Q7 ?_
      exact⟨_,z8 [0,1,2,3,4,5,6,7,8,9] [4,5,8,59,60] rfl,M,N,hMN,rfl⟩
   ·rintro _ ⟨M',N',hMN',rfl⟩
    refine y7 hT ?_
    exact⟨n - 1,by omega,_,z8 [0,1,2,3,4,5,6,7,8,9] [4,5,8,59,60] rfl,c+1,IntKind.i64.wrap ((c:Int)+1),M',N',by omega,by rw[Q0 _ (by omega) (by omega)];rfl,hMN',rfl⟩
  ·have h:=k0y (show decide (jc<((4:Nat):Int))=false from h)
   rw[show c=4 by omega]at hMN
   obtain rfl:N=(g 4).2:=by rw[hMN]
   refine Q7 ?_
   exact⟨z8 [5,6,7,8,9] [8] rfl,trivial⟩
 refine y6 hT ?_
 refine u5 ?_
 exact x8 [0,1,2,3,4] ⟨rfl,rfl⟩ rfl
end Go.Proofs.YtkjklhcfgbaceaaGreat.AL
