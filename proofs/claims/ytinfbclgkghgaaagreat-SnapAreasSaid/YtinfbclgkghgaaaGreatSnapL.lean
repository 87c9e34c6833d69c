/- A part of the proof. -/
import Derived.Test.YtinfbclgkghgaaaGreatSnapK
/- The layer 2 (mat): the inverse of a matrix (printed by geninv.py). -/
namespace Go.Proofs.YtinfbclgkghgaaaGreat.AL
open Go Go.Proofs
theorem q2w {α:Type}{X Y:List α}(h:X.length=Y.length):W4 X 0 Y=Y:=by
 unfold W4
 rw[List.take_zero,List.nil_append,Nat.zero_add,List.drop_eq_nil_of_le (by omega),List.append_nil]
set_option maxHeartbeats 16000000 in
set_option maxRecDepth 20000 in
theorem v5k (a0:y7)(hA:∀ s∈([a0]:List y7),s.length=1)(hok:y0d 1 [a0]=true) :
 AF Tryz.prog q8x [.p (.sl 1 (y6 [a0]))] [] (Q0 (.tup [.p (.sl 1 (y6 [(gs 1 [a0] 1).2 0])),i64 0]) []):=by
 have hlen:=y0e hok rfl hA
 refine x1p (M:=(gs 1 [a0] 1).2) (n:=1) (hlen 1 (Nat.le_refl _)).2 ?_
 have hpiv:=fun(c:Nat) (hc:c<1)=>z3n hc (z7v hok hc)
 have wA:=J1 [a0] 1 (show 1≤1 by decide) (show 1≤64 by decide) (by decide) (by decide) hA
 have ha0:a0.length=1:=hA a0 (by simp)
 have hx0:=u6 a0
 have hstep:∀ c,gs 1 [a0] (c+1)=q1n 1 c (gs 1 [a0] c):=fun _=>rfl
 have hg0:gs 1 [a0] 0=gs0 1 [a0]:=rfl
 generalize gs 1 [a0]=g at hlen hpiv hstep hg0 ⊢
 have wn:=q3e
 have wo:=w0b
 have winv:=y6x
 have wtm:=fun(t:y7) (x:UInt8) (ht:t.length=1)=>z3k t x (by omega)
 have wad:=fun(to row:y7) (x:UInt8) (ht:to.length=1) (hr:row.length=1)=>z7u to row x (by omega) (by omega)
 unfold q2q at wn winv wtm wad
 generalize fP=F at wn winv wtm wad
 refine u9 hT z3c rfl rfl z3d rfl ?_
 refine q8 (q7 hT ?_)
 refine y8 ⟨⟨166,[(0,.p (.sl 1 (y6 [a0])))]⟩,[]⟩ True (q8 (q7 hT ?_)) (fun _=>?_)
 ·refine x8 (u5 wA _ rfl rfl) ?_
  refine⟨by decide,u7 rfl ?_⟩
  refine z6 (x7 (fun h=>?_) (fun h=>?_))
  ·have h:((((bx a0).length:Nat):Int) != ((1:Nat):Int))=true:=h
   rw[bne_iff_ne]at h
   omega
  exact z9 ⟨q9 [] [0] rfl,trivial⟩
 refine q8 (q7 hT ?_)
 refine x8 (u5 wn _ rfl rfl) ?_
 refine y8 ⟨⟨166,[(0,.p (.sl 1 (y6 [a0]))),(4,.p (.box F)),(5,.msl 0 1 0 1)]⟩,[.cells z5 [.p (.raw (.slice none 0 0))]]⟩ True (q7 hT ?_) (fun _=>?_)
 ·refine⟨⟨rfl,(show (0:Int)≤((1:Nat):Int) by decide),(show ((1:Nat):Int)*24≤140737488355328 by decide),(show ((1:Nat):Int)≤140737488355328 by decide)⟩,?_⟩
  exact⟨Wk.trans (J3 0 [.raw (.slice none 0 0)] rfl rfl (by decide)) (q9 [0] [0,4,5] rfl),trivial⟩
 refine y8 ⟨⟨166,[(0,.p (.sl 1 (y6 [a0]))),(4,.p (.box F)),(5,.msl 0 1 0 1)]⟩,[.cells z5 [.msl 1 1 0 1],.row z4 1 (bx a0)]⟩ True (q8 (q7 hT ?_)) (fun _=>?_)
 ·refine z7 ?_
  refine w7 (fun n s=>(n=1∧s=⟨⟨166,[(0,.p (.sl 1 (y6 [a0]))),(4,.p (.box F)),(5,.msl 0 1 0 1),(32,.p (.sl 1 (y6 [a0]))),(33,i64 1),(34,i64 0)]⟩,[.cells z5 [.p (.raw (.slice none 0 0))]]⟩)∨(n=0∧s=⟨⟨166,[(0,.p (.sl 1 (y6 [a0]))),(4,.p (.box F)),(5,.msl 0 1 0 1),(32,.p (.sl 1 (y6 [a0]))),(33,i64 1),(34,i64 1)]⟩,[.cells z5 [.msl 1 1 0 1],.row z4 1 (bx a0)]⟩)) 1 ⟨⟨166,_⟩,_⟩ (q9 [0] [0,4,5,32,33,34] rfl) (.inl ⟨rfl,rfl⟩) ?_
  rintro n s (⟨rfl,rfl⟩|⟨rfl,rfl⟩)
  ·refine q8 (q7 hT ?_)
   refine q8 (z6 ?_)
   refine z9 ?_
   refine w6 (fun st=>∃ Y,Y=bx a0∧st=⟨⟨166,[(0,.p (.sl 1 (y6 [a0]))),(4,.p (.box F)),(5,.msl 0 1 0 1),(32,.p (.sl 1 (y6 [a0]))),(33,i64 1),(34,i64 0)]⟩,[.cells z5 [.msl 1 1 0 1],.row z4 1 (Y)]⟩) (z7 ?_) ?_
   ·refine q8 (q7 hT ?_)
    refine⟨by decide,u7 rfl ?_⟩
    refine w6 (fun st=>∃ (m:Nat) (X:List (List PV)),m=1∧X.length=1∧st=⟨⟨166,[(0,.p (.sl 1 (y6 [a0]))),(4,.p (.box F)),(5,.msl 0 1 0 1),(32,.p (.sl 1 (y6 [a0]))),(33,i64 1),(34,i64 0),(6,i64 0),(7,bA a0)]⟩,[.cells z5 [.msl 1 1 0 m],.row z4 1 (X)]⟩) (q7 hT ?_) ?_
    ·refine⟨⟨rfl,by omega,by show (((bx a0).length:Nat):Int)*1≤_;omega,by omega⟩,?_⟩
     refine⟨by decide,?_⟩
     exact⟨_,q9 [0,1] [0,4,5,32,33,34,6,7] rfl,_,_,(by rw[Int.toNat_natCast];omega),(by rw[List.length_replicate,Int.toNat_natCast];omega),rfl⟩
    rintro _ ⟨m,X,rfl,hX,rfl⟩
    refine q7 hT ?_
    refine⟨by decide,?_⟩
    refine⟨⟨by omega,by omega⟩,?_⟩
    refine⟨_,q9 [0,1] [0,4,5,32,33,34] rfl,_,?_,rfl⟩
    exact q2w (by omega)
   ·rintro _ ⟨Y,rfl,rfl⟩
    refine q7 hT ?_
    exact⟨0,by decide,_,q9 [0,1] [0,4,5,32,33,34] rfl,(.inr ⟨rfl,rfl⟩)⟩
  ·refine q8 (q7 hT ?_)
   refine q8 (z6 ?_)
   refine u0 ?_
   exact⟨q9 [0,1] [0,4,5] rfl,trivial⟩
 refine y8 ⟨⟨166,[(4,.p (.box F)),(5,.msl 0 1 0 1),(8,.msl 2 1 0 1)]⟩,[.cells z5 [.msl 1 1 0 1],.row z4 1 (bx ((g 0).1 0)),.cells z5 [.msl 3 1 0 1],.row z4 1 (bx ((g 0).2 0))]⟩ True (q7 hT ?_) (fun _=>?_)
 ·refine x8 (q1t wo _ rfl) ?_
  rw[hg0]
  exact⟨q9 [0,1,2,3] [4,5,8] rfl,trivial⟩
 refine y8 ⟨⟨166,[(8,.msl 0 1 0 1)]⟩,[.cells z5 [.msl 1 1 0 1],.row z4 1 (bx ((g 1).2 0))]⟩ True (q8 (q7 hT ?_)) (fun _=>?_)
 ·refine z7 ?_
  refine w7 (fun n s=>(n=1∧s=⟨⟨166,[(4,.p (.box F)),(5,.msl 0 1 0 1),(8,.msl 2 1 0 1),(59,i64 1),(60,i64 0)]⟩,[.cells z5 [.msl 1 1 0 1],.row z4 1 (bx ((g 0).1 0)),.cells z5 [.msl 3 1 0 1],.row z4 1 (bx ((g 0).2 0))]⟩)∨(n=0∧s=⟨⟨166,[(4,.p (.box F)),(5,.msl 0 1 0 1),(8,.msl 2 1 0 1),(59,i64 1),(60,i64 1)]⟩,[.cells z5 [.msl 1 1 0 1],.row z4 1 (bx ((g 1).1 0)),.cells z5 [.msl 3 1 0 1],.row z4 1 (bx ((g 1).2 0))]⟩)) 1 ⟨⟨166,_⟩,_⟩ (q9 [0,1,2,3] [4,5,8,59,60] rfl) (.inl ⟨rfl,rfl⟩) ?_
  rintro n s (⟨rfl,rfl⟩|⟨rfl,rfl⟩)
  ·refine q8 (q7 hT ?_)
   refine q8 (z6 ?_)
   refine z9 ?_
   obtain⟨p,p1,p2,p3,p4⟩:=hpiv 0 (by decide)
   obtain⟨l1,l2⟩:=hlen 0 (by decide)
   have hs:=hstep 0
   have wp:=w4e (g 0).1 l1 0 (by decide)
   rw[p1]at wp
   refine y8 ⟨⟨166,[(4,.p (.box F)),(5,.msl 0 1 0 1),(8,.msl 2 1 0 1),(59,i64 1),(60,i64 0)]⟩,[.cells z5 [.msl 1 1 0 1],.row z4 1 (bx ((g 1).1 0)),.cells z5 [.msl 3 1 0 1],.row z4 1 (bx ((g 1).2 0))]⟩ True (z7 ?_) (fun _=>?_)
   ·refine q8 (q7 hT ?_)
    refine y8 ⟨⟨166,[(4,.p (.box F)),(5,.msl 0 1 0 1),(8,.msl 2 1 0 1),(59,i64 1),(10,i64 0),(60,i64 0),(11,i64 p)]⟩,[.cells z5 [.msl 1 1 0 1],.row z4 1 (bx ((g 0).1 0)),.cells z5 [.msl 3 1 0 1],.row z4 1 (bx ((g 0).2 0))]⟩ True (q7 hT ?_) (fun _=>?_)
    ·refine x8 (Q1 [0,1] wp rfl rfl rfl) ?_
     exact⟨q9 [0,1,2,3] [4,5,8,59,10,60,11] rfl,trivial⟩
    refine y8 ⟨⟨166,[(4,.p (.box F)),(5,.msl 0 1 0 1),(8,.msl 2 1 0 1),(59,i64 1),(10,i64 0),(60,i64 0),(11,i64 p)]⟩,[.cells z5 [.msl 1 1 0 1],.row z4 1 (bx ((g 0).1 0)),.cells z5 [.msl 3 1 0 1],.row z4 1 (bx ((g 0).2 0))]⟩ True (q8 (q7 hT ?_)) (fun _=>?_)
    ·refine z6 ?_
     exact z9 ⟨q9 [0,1,2,3] [4,5,8,59,10,60,11] rfl,trivial⟩
    have hp:p=0:=by omega
    refine w6 (fun st=>∃ M1,M1=swp (g 0).1 0 p∧st=⟨⟨166,[(4,.p (.box F)),(5,.msl 0 1 0 1),(8,.msl 2 1 0 1),(59,i64 1),(10,i64 0),(60,i64 0),(11,i64 p)]⟩,[.cells z5 [.msl 1 1 0 1],.row z4 1 (bx (M1 0)),.cells z5 [.msl 3 1 0 1],.row z4 1 (bx ((g 0).2 0))]⟩) ?_ ?_
    ·rcases hp with rfl
     ·refine w9 [13,15] [] hT z8 (by rfl) ?_
      refine⟨by decide,?_⟩
      refine⟨by decide,?_⟩
      refine⟨by decide,?_⟩
      refine⟨by decide,?_⟩
      repeat first|refine⟨rfl,?_⟩|refine⟨⟨by decide,rfl⟩,?_⟩
      exact⟨_,q9 [0,1,2,3] [4,5,8,59,10,60,11] rfl,swp (g 0).1 0 0,rfl,rfl⟩
    rintro _ ⟨M1,hM1,rfl⟩
    refine w6 (fun st=>∃ N1,N1=swp (g 0).2 0 p∧st=⟨⟨166,[(4,.p (.box F)),(5,.msl 0 1 0 1),(8,.msl 2 1 0 1),(59,i64 1),(10,i64 0),(60,i64 0)]⟩,[.cells z5 [.msl 1 1 0 1],.row z4 1 (bx (M1 0)),.cells z5 [.msl 3 1 0 1],.row z4 1 (bx (N1 0))]⟩) ?_ ?_
    ·rcases hp with rfl
     ·refine w9 [13,15] [] hT z8 (by rfl) ?_
      refine⟨by decide,?_⟩
      refine⟨by decide,?_⟩
      refine⟨by decide,?_⟩
      refine⟨by decide,?_⟩
      repeat first|refine⟨rfl,?_⟩|refine⟨⟨by decide,rfl⟩,?_⟩
      exact⟨_,q9 [0,1,2,3] [4,5,8,59,10,60] rfl,swp (g 0).2 0 0,rfl,rfl⟩
    rintro _ ⟨N1,hN1,rfl⟩
    have hsw:J4 1 0 (g 0)=(M1,N1):=by unfold J4;rw[p1,Int.toNat_natCast,← hM1,← hN1]
    have lm:Y9 1 M1:=by rw[hM1];exact V5 l1 (by decide) p3
    have ln:Y9 1 N1:=by rw[hN1];exact V5 l2 (by decide) p3
    have hv0:(M1 0).getD 0 0≠0:=by rw[hM1];exact p4
    have hM1c:=lm 0 (by decide)
    have hN1c:=ln 0 (by decide)
    have hcc:=Z3 (l:=M1 0) (c:=0) (by rw[hM1c];decide)
    have htm:q2y 0 (M1,N1)=(Y0 M1 0 (V4 (Gf.inv ((M1 0).getD 0 0)) (M1 0)),Y0 N1 0 (V4 (Gf.inv ((M1 0).getD 0 0)) (N1 0))):=rfl
    have wi:=winv _ hv0
    generalize (M1 0).getD 0 0=v at hcc wi htm
    generalize Gf.inv v=by_ at wi htm
    have hcx:(bx (M1 0))[0+((0:Nat):Int).toNat]?=some [u8 v]:=Q7 hcc
    have w1:=wtm (M1 0) by_ hM1c
    have w2:=wtm (N1 0) by_ hN1c
    rw[hM1c]at w1
    rw[hN1c]at w2
    refine y8 ⟨⟨166,[(4,.p (.box F)),(5,.msl 0 1 0 1),(8,.msl 2 1 0 1),(59,i64 1),(10,i64 0),(60,i64 0),(12,.p (u8 by_))]⟩,[.cells z5 [.msl 1 1 0 1],.row z4 1 (bx (M1 0)),.cells z5 [.msl 3 1 0 1],.row z4 1 (bx (N1 0))]⟩ True (q7 hT ?_) (fun _=>?_)
    ·refine⟨by decide,?_⟩
     refine⟨⟨by decide,by decide⟩,?_⟩
     refine u7 hcx ?_
     refine x8 (u5 wi _ rfl rfl) ?_
     exact⟨q9 [0,1,2,3] [4,5,8,59,10,60,12] rfl,trivial⟩
    obtain⟨M2,hM2⟩:∃ M2,M2=Y0 M1 0 (V4 by_ (M1 0)):=⟨_,rfl⟩
    obtain⟨N2,hN2⟩:∃ N2,N2=Y0 N1 0 (V4 by_ (N1 0)):=⟨_,rfl⟩
    rw[← hM2,← hN2]at htm
    have lm2:Y9 1 M2:=by rw[hM2];exact X7 lm 0 (by rw[X4];exact hM1c)
    have ln2:Y9 1 N2:=by rw[hN2];exact X7 ln 0 (by rw[X4];exact hN1c)
    refine y8 ⟨⟨166,[(4,.p (.box F)),(5,.msl 0 1 0 1),(8,.msl 2 1 0 1),(59,i64 1),(10,i64 0),(60,i64 0),(12,.p (u8 by_))]⟩,[.cells z5 [.msl 1 1 0 1],.row z4 1 (bx (M2 0)),.cells z5 [.msl 3 1 0 1],.row z4 1 (bx (N1 0))]⟩ True (q7 hT ?_) (fun _=>?_)
    ·refine⟨by decide,?_⟩
     refine x8 (Q1 [1] w1 rfl rfl rfl) ?_
     rw[hM2]
     exact⟨q9 [0,1,2,3] [4,5,8,59,10,60,12] rfl,trivial⟩
    refine y8 ⟨⟨166,[(4,.p (.box F)),(5,.msl 0 1 0 1),(8,.msl 2 1 0 1),(59,i64 1),(10,i64 0),(60,i64 0)]⟩,[.cells z5 [.msl 1 1 0 1],.row z4 1 (bx (M2 0)),.cells z5 [.msl 3 1 0 1],.row z4 1 (bx (N2 0))]⟩ True (q7 hT ?_) (fun _=>?_)
    ·refine⟨by decide,?_⟩
     refine x8 (Q1 [3] w2 rfl rfl rfl) ?_
     rw[hN2]
     exact⟨q9 [0,1,2,3] [4,5,8,59,10,60] rfl,trivial⟩
    have hend:g 1=elS 0 (M2,N2) 1:=by rw[hs];unfold q1n;rw[hsw,htm]
    clear w1 w2 wi hM1 hN1 hM2 hN2 hsw htm hs lm ln hcc hcx hv0 hM1c hN1c
    refine q8 (q7 hT ?_)
    refine z7 ?_
    refine w7 (fun n s=>∃ (k:Nat) (j:Int) (M N:W8),n+k=1∧j=k∧elS 0 (M2,N2) k=(M,N)∧s=⟨⟨166,[(4,.p (.box F)),(5,.msl 0 1 0 1),(8,.msl 2 1 0 1),(59,i64 1),(10,i64 0),(60,i64 0),(122,.msl 0 1 0 1),(123,i64 1),(124,i64 j)]⟩,[.cells z5 [.msl 1 1 0 1],.row z4 1 (bx (M 0)),.cells z5 [.msl 3 1 0 1],.row z4 1 (bx (N 0))]⟩) 1 ⟨⟨166,_⟩,_⟩ (q9 [0,1,2,3] [4,5,8,59,10,60,122,123,124] rfl) ⟨0,0,M2,N2,rfl,rfl,rfl,rfl⟩ ?_
    rintro n2 s ⟨k,j,M,N,hnk,hj,hMN,rfl⟩
    have hlk:=q2j (r:=1) (c:=0) (by decide) (G:=(M2,N2)) lm2 ln2 k (by omega)
    rw[hMN]at hlk
    obtain⟨m1,m2⟩:=hlk
    have m1:Y9 1 M:=m1
    have m2:Y9 1 N:=m2
    have hsk:elS 0 (M2,N2) (k+1)=Y4 0 k (M,N):=by rw[elS,hMN]
    refine q8 (q7 hT ?_)
    refine q8 (z6 (x7 (fun h=>?_) (fun h=>?_)))
    ·have h:=of_decide_eq_true (show decide (j<((1:Nat):Int))=true from h)
     refine z9 ?_
     have hk4:k=0:=by omega
     subst hj
     refine w6 (fun st=>∃ M' N',elS 0 (M2,N2) (k+1)=(M',N')∧st=⟨⟨166,[(4,.p (.box F)),(5,.msl 0 1 0 1),(8,.msl 2 1 0 1),(59,i64 1),(10,i64 0),(60,i64 0),(122,.msl 0 1 0 1),(123,i64 1),(124,i64 k)]⟩,[.cells z5 [.msl 1 1 0 1],.row z4 1 (bx (M' 0)),.cells z5 [.msl 3 1 0 1],.row z4 1 (bx (N' 0))]⟩) (z7 ?_) ?_
     ·rcases hk4 with rfl
      ·have hg:=Z3 (l:=M 0) (c:=0) (by rw[m1 0 (by decide)];decide)
       have hcond:∀ x,(M 0).getD 0 0=x→Y4 0 0 (M,N)=match !Nat.beq 0 0&&x != 0 with|true=>(Y0 M 0 (Y7 (M 0) (M 0) x),Y0 N 0 (Y7 (N 0) (N 0) x))|false=>(M,N):=fun x hx=>by subst hx;rfl
       generalize hx:(M 0).getD 0 0=x at hg
       rw[hcond x hx]at hsk
       clear hcond hx
       have hgx:(bx (M 0))[0+((0:Nat):Int).toNat]?=some [u8 x]:=Q7 hg
       refine q8 (q7 hT ?_)
       refine q8 (q7 hT ?_)
       refine⟨by decide,?_⟩
       refine⟨⟨by decide,by decide⟩,?_⟩
       refine u7 hgx ?_
       refine q8 (q7 hT ?_)
       refine z6 ?_
       exact z9 ⟨_,q9 [0,1,2,3] [4,5,8,59,10,60,122,123,124] rfl,M,N,hsk,rfl⟩
     ·rintro _ ⟨M',N',hMN',rfl⟩
      refine q7 hT ?_
      exact⟨n2 - 1,by omega,_,q9 [0,1,2,3] [4,5,8,59,10,60,122,123,124] rfl,k+1,IntKind.i64.wrap ((k:Int)+1),M',N',by omega,by rw[x9 _ (by omega) (by omega)];rfl,hMN',rfl⟩
    ·have h:=of_decide_eq_false (show decide (j<((1:Nat):Int))=false from h)
     have hkr:k=1:=by omega
     rw[hkr,← hend]at hMN
     rw[hMN]
     refine u0 ?_
     exact⟨q9 [0,1,2,3] [4,5,8,59,60] rfl,trivial⟩
   ·refine q7 hT ?_
    exact⟨0,by decide,_,q9 [0,1,2,3] [4,5,8,59,60] rfl,(.inr ⟨rfl,rfl⟩)⟩
  ·refine q8 (q7 hT ?_)
   refine q8 (z6 ?_)
   refine u0 ?_
   exact⟨q9 [2,3] [8] rfl,trivial⟩
 refine q8 (q7 hT ?_)
 refine x6 ?_
 exact y9 [0,1] ⟨rfl,rfl⟩ rfl
set_option maxHeartbeats 16000000 in
set_option maxRecDepth 20000 in
theorem v5m (a0 a1:y7)(hA:∀ s∈([a0,a1]:List y7),s.length=2)(hok:y0d 2 [a0,a1]=true) :
 AF Tryz.prog q8x [.p (.sl 1 (y6 [a0,a1]))] [] (Q0 (.tup [.p (.sl 1 (y6 [(gs 2 [a0,a1] 2).2 0,(gs 2 [a0,a1] 2).2 1])),i64 0]) []):=by
 have hlen:=y0e hok rfl hA
 refine x1q (M:=(gs 2 [a0,a1] 2).2) (n:=2) (hlen 2 (Nat.le_refl _)).2 ?_
 have hpiv:=fun(c:Nat) (hc:c<2)=>z3n hc (z7v hok hc)
 have wA:=J1 [a0,a1] 2 (show 1≤2 by decide) (show 2≤64 by decide) (by decide) (by decide) hA
 have ha0:a0.length=2:=hA a0 (by simp)
 have hx0:=u6 a0
 have ha1:a1.length=2:=hA a1 (by simp)
 have hx1:=u6 a1
 have hstep:∀ c,gs 2 [a0,a1] (c+1)=q1n 2 c (gs 2 [a0,a1] c):=fun _=>rfl
 have hg0:gs 2 [a0,a1] 0=gs0 2 [a0,a1]:=rfl
 generalize gs 2 [a0,a1]=g at hlen hpiv hstep hg0 ⊢
 have wn:=q3e
 have wo:=w0c
 have winv:=y6x
 have wtm:=fun(t:y7) (x:UInt8) (ht:t.length=2)=>z3k t x (by omega)
 have wad:=fun(to row:y7) (x:UInt8) (ht:to.length=2) (hr:row.length=2)=>z7u to row x (by omega) (by omega)
 unfold q2q at wn winv wtm wad
 generalize fP=F at wn winv wtm wad
 refine u9 hT z3c rfl rfl z3d rfl ?_
 refine q8 (q7 hT ?_)
 refine y8 ⟨⟨166,[(0,.p (.sl 1 (y6 [a0,a1])))]⟩,[]⟩ True (q8 (q7 hT ?_)) (fun _=>?_)
 ·refine x8 (u5 wA _ rfl rfl) ?_
  refine⟨by decide,u7 rfl ?_⟩
  refine z6 (x7 (fun h=>?_) (fun h=>?_))
  ·have h:((((bx a0).length:Nat):Int) != ((2:Nat):Int))=true:=h
   rw[bne_iff_ne]at h
   omega
  exact z9 ⟨q9 [] [0] rfl,trivial⟩
 refine q8 (q7 hT ?_)
 refine x8 (u5 wn _ rfl rfl) ?_
 refine y8 ⟨⟨166,[(0,.p (.sl 1 (y6 [a0,a1]))),(4,.p (.box F)),(5,.msl 0 1 0 2)]⟩,[.cells z5 [.p (.raw (.slice none 0 0)),.p (.raw (.slice none 0 0))]]⟩ True (q7 hT ?_) (fun _=>?_)
 ·refine⟨⟨rfl,(show (0:Int)≤((2:Nat):Int) by decide),(show ((2:Nat):Int)*24≤140737488355328 by decide),(show ((2:Nat):Int)≤140737488355328 by decide)⟩,?_⟩
  exact⟨Wk.trans (J3 0 [.raw (.slice none 0 0),.raw (.slice none 0 0)] rfl rfl (by decide)) (q9 [0] [0,4,5] rfl),trivial⟩
 refine y8 ⟨⟨166,[(0,.p (.sl 1 (y6 [a0,a1]))),(4,.p (.box F)),(5,.msl 0 1 0 2)]⟩,[.cells z5 [.msl 1 1 0 2,.msl 2 1 0 2],.row z4 1 (bx a0),.row z4 1 (bx a1)]⟩ True (q8 (q7 hT ?_)) (fun _=>?_)
 ·refine z7 ?_
  refine w7 (fun n s=>(n=2∧s=⟨⟨166,[(0,.p (.sl 1 (y6 [a0,a1]))),(4,.p (.box F)),(5,.msl 0 1 0 2),(32,.p (.sl 1 (y6 [a0,a1]))),(33,i64 2),(34,i64 0)]⟩,[.cells z5 [.p (.raw (.slice none 0 0)),.p (.raw (.slice none 0 0))]]⟩)∨(n=1∧s=⟨⟨166,[(0,.p (.sl 1 (y6 [a0,a1]))),(4,.p (.box F)),(5,.msl 0 1 0 2),(32,.p (.sl 1 (y6 [a0,a1]))),(33,i64 2),(34,i64 1)]⟩,[.cells z5 [.msl 1 1 0 2,.p (.raw (.slice none 0 0))],.row z4 1 (bx a0)]⟩)∨(n=0∧s=⟨⟨166,[(0,.p (.sl 1 (y6 [a0,a1]))),(4,.p (.box F)),(5,.msl 0 1 0 2),(32,.p (.sl 1 (y6 [a0,a1]))),(33,i64 2),(34,i64 2)]⟩,[.cells z5 [.msl 1 1 0 2,.msl 2 1 0 2],.row z4 1 (bx a0),.row z4 1 (bx a1)]⟩)) 2 ⟨⟨166,_⟩,_⟩ (q9 [0] [0,4,5,32,33,34] rfl) (.inl ⟨rfl,rfl⟩) ?_
  rintro n s (⟨rfl,rfl⟩|⟨rfl,rfl⟩|⟨rfl,rfl⟩)
  ·refine q8 (q7 hT ?_)
   refine q8 (z6 ?_)
   refine z9 ?_
   refine w6 (fun st=>∃ Y,Y=bx a0∧st=⟨⟨166,[(0,.p (.sl 1 (y6 [a0,a1]))),(4,.p (.box F)),(5,.msl 0 1 0 2),(32,.p (.sl 1 (y6 [a0,a1]))),(33,i64 2),(34,i64 0)]⟩,[.cells z5 [.msl 1 1 0 2,.p (.raw (.slice none 0 0))],.row z4 1 (Y)]⟩) (z7 ?_) ?_
   ·refine q8 (q7 hT ?_)
    refine⟨by decide,u7 rfl ?_⟩
    refine w6 (fun st=>∃ (m:Nat) (X:List (List PV)),m=2∧X.length=2∧st=⟨⟨166,[(0,.p (.sl 1 (y6 [a0,a1]))),(4,.p (.box F)),(5,.msl 0 1 0 2),(32,.p (.sl 1 (y6 [a0,a1]))),(33,i64 2),(34,i64 0),(6,i64 0),(7,bA a0)]⟩,[.cells z5 [.msl 1 1 0 m,.p (.raw (.slice none 0 0))],.row z4 1 (X)]⟩) (q7 hT ?_) ?_
    ·refine⟨⟨rfl,by omega,by show (((bx a0).length:Nat):Int)*1≤_;omega,by omega⟩,?_⟩
     refine⟨by decide,?_⟩
     exact⟨_,q9 [0,1] [0,4,5,32,33,34,6,7] rfl,_,_,(by rw[Int.toNat_natCast];omega),(by rw[List.length_replicate,Int.toNat_natCast];omega),rfl⟩
    rintro _ ⟨m,X,rfl,hX,rfl⟩
    refine q7 hT ?_
    refine⟨by decide,?_⟩
    refine⟨⟨by omega,by omega⟩,?_⟩
    refine⟨_,q9 [0,1] [0,4,5,32,33,34] rfl,_,?_,rfl⟩
    exact q2w (by omega)
   ·rintro _ ⟨Y,rfl,rfl⟩
    refine q7 hT ?_
    exact⟨1,by decide,_,q9 [0,1] [0,4,5,32,33,34] rfl,(.inr (.inl ⟨rfl,rfl⟩))⟩
  ·refine q8 (q7 hT ?_)
   refine q8 (z6 ?_)
   refine z9 ?_
   refine w6 (fun st=>∃ Y,Y=bx a1∧st=⟨⟨166,[(0,.p (.sl 1 (y6 [a0,a1]))),(4,.p (.box F)),(5,.msl 0 1 0 2),(32,.p (.sl 1 (y6 [a0,a1]))),(33,i64 2),(34,i64 1)]⟩,[.cells z5 [.msl 1 1 0 2,.msl 2 1 0 2],.row z4 1 (bx a0),.row z4 1 (Y)]⟩) (z7 ?_) ?_
   ·refine q8 (q7 hT ?_)
    refine⟨by decide,u7 rfl ?_⟩
    refine w6 (fun st=>∃ (m:Nat) (X:List (List PV)),m=2∧X.length=2∧st=⟨⟨166,[(0,.p (.sl 1 (y6 [a0,a1]))),(4,.p (.box F)),(5,.msl 0 1 0 2),(32,.p (.sl 1 (y6 [a0,a1]))),(33,i64 2),(34,i64 1),(6,i64 1),(7,bA a1)]⟩,[.cells z5 [.msl 1 1 0 2,.msl 2 1 0 m],.row z4 1 (bx a0),.row z4 1 (X)]⟩) (q7 hT ?_) ?_
    ·refine⟨⟨rfl,by omega,by show (((bx a1).length:Nat):Int)*1≤_;omega,by omega⟩,?_⟩
     refine⟨by decide,?_⟩
     exact⟨_,q9 [0,1,2] [0,4,5,32,33,34,6,7] rfl,_,_,(by rw[Int.toNat_natCast];omega),(by rw[List.length_replicate,Int.toNat_natCast];omega),rfl⟩
    rintro _ ⟨m,X,rfl,hX,rfl⟩
    refine q7 hT ?_
    refine⟨by decide,?_⟩
    refine⟨⟨by omega,by omega⟩,?_⟩
    refine⟨_,q9 [0,1,2] [0,4,5,32,33,34] rfl,_,?_,rfl⟩
    exact q2w (by omega)
   ·rintro _ ⟨Y,rfl,rfl⟩
    refine q7 hT ?_
    exact⟨0,by decide,_,q9 [0,1,2] [0,4,5,32,33,34] rfl,(.inr (.inr ⟨rfl,rfl⟩))⟩
  ·refine q8 (q7 hT ?_)
   refine q8 (z6 ?_)
   refine u0 ?_
   exact⟨q9 [0,1,2] [0,4,5] rfl,trivial⟩
 refine y8 ⟨⟨166,[(4,.p (.box F)),(5,.msl 0 1 0 2),(8,.msl 3 1 0 2)]⟩,[.cells z5 [.msl 1 1 0 2,.msl 2 1 0 2],.row z4 1 (bx ((g 0).1 0)),.row z4 1 (bx ((g 0).1 1)),.cells z5 [.msl 4 1 0 2,.msl 5 1 0 2],.row z4 1 (bx ((g 0).2 0)),.row z4 1 (bx ((g 0).2 1))]⟩ True (q7 hT ?_) (fun _=>?_)
 ·refine x8 (q1t wo _ rfl) ?_
  rw[hg0]
  exact⟨q9 [0,1,2,3,4,5] [4,5,8] rfl,trivial⟩
 refine y8 ⟨⟨166,[(8,.msl 0 1 0 2)]⟩,[.cells z5 [.msl 1 1 0 2,.msl 2 1 0 2],.row z4 1 (bx ((g 2).2 0)),.row z4 1 (bx ((g 2).2 1))]⟩ True (q8 (q7 hT ?_)) (fun _=>?_)
 ·refine z7 ?_
  refine w7 (fun n s=>(n=2∧s=⟨⟨166,[(4,.p (.box F)),(5,.msl 0 1 0 2),(8,.msl 3 1 0 2),(59,i64 2),(60,i64 0)]⟩,[.cells z5 [.msl 1 1 0 2,.msl 2 1 0 2],.row z4 1 (bx ((g 0).1 0)),.row z4 1 (bx ((g 0).1 1)),.cells z5 [.msl 4 1 0 2,.msl 5 1 0 2],.row z4 1 (bx ((g 0).2 0)),.row z4 1 (bx ((g 0).2 1))]⟩)∨(n=1∧s=⟨⟨166,[(4,.p (.box F)),(5,.msl 0 1 0 2),(8,.msl 3 1 0 2),(59,i64 2),(60,i64 1)]⟩,[.cells z5 [.msl 1 1 0 2,.msl 2 1 0 2],.row z4 1 (bx ((g 1).1 0)),.row z4 1 (bx ((g 1).1 1)),.cells z5 [.msl 4 1 0 2,.msl 5 1 0 2],.row z4 1 (bx ((g 1).2 0)),.row z4 1 (bx ((g 1).2 1))]⟩)∨(n=0∧s=⟨⟨166,[(4,.p (.box F)),(5,.msl 0 1 0 2),(8,.msl 3 1 0 2),(59,i64 2),(60,i64 2)]⟩,[.cells z5 [.msl 1 1 0 2,.msl 2 1 0 2],.row z4 1 (bx ((g 2).1 0)),.row z4 1 (bx ((g 2).1 1)),.cells z5 [.msl 4 1 0 2,.msl 5 1 0 2],.row z4 1 (bx ((g 2).2 0)),.row z4 1 (bx ((g 2).2 1))]⟩)) 2 ⟨⟨166,_⟩,_⟩ (q9 [0,1,2,3,4,5] [4,5,8,59,60] rfl) (.inl ⟨rfl,rfl⟩) ?_
  rintro n s (⟨rfl,rfl⟩|⟨rfl,rfl⟩|⟨rfl,rfl⟩)
  ·refine q8 (q7 hT ?_)
   refine q8 (z6 ?_)
   refine z9 ?_
   obtain⟨p,p1,p2,p3,p4⟩:=hpiv 0 (by decide)
   obtain⟨l1,l2⟩:=hlen 0 (by decide)
   have hs:=hstep 0
   have wp:=y7f (g 0).1 l1 0 (by decide)
   rw[p1]at wp
   refine y8 ⟨⟨166,[(4,.p (.box F)),(5,.msl 0 1 0 2),(8,.msl 3 1 0 2),(59,i64 2),(60,i64 0)]⟩,[.cells z5 [.msl 1 1 0 2,.msl 2 1 0 2],.row z4 1 (bx ((g 1).1 0)),.row z4 1 (bx ((g 1).1 1)),.cells z5 [.msl 4 1 0 2,.msl 5 1 0 2],.row z4 1 (bx ((g 1).2 0)),.row z4 1 (bx ((g 1).2 1))]⟩ True (z7 ?_) (fun _=>?_)
   ·refine q8 (q7 hT ?_)
    refine y8 ⟨⟨166,[(4,.p (.box F)),(5,.msl 0 1 0 2),(8,.msl 3 1 0 2),(59,i64 2),(10,i64 0),(60,i64 0),(11,i64 p)]⟩,[.cells z5 [.msl 1 1 0 2,.msl 2 1 0 2],.row z4 1 (bx ((g 0).1 0)),.row z4 1 (bx ((g 0).1 1)),.cells z5 [.msl 4 1 0 2,.msl 5 1 0 2],.row z4 1 (bx ((g 0).2 0)),.row z4 1 (bx ((g 0).2 1))]⟩ True (q7 hT ?_) (fun _=>?_)
    ·refine x8 (Q1 [0,1,2] wp rfl rfl rfl) ?_
     exact⟨q9 [0,1,2,3,4,5] [4,5,8,59,10,60,11] rfl,trivial⟩
    refine y8 ⟨⟨166,[(4,.p (.box F)),(5,.msl 0 1 0 2),(8,.msl 3 1 0 2),(59,i64 2),(10,i64 0),(60,i64 0),(11,i64 p)]⟩,[.cells z5 [.msl 1 1 0 2,.msl 2 1 0 2],.row z4 1 (bx ((g 0).1 0)),.row z4 1 (bx ((g 0).1 1)),.cells z5 [.msl 4 1 0 2,.msl 5 1 0 2],.row z4 1 (bx ((g 0).2 0)),.row z4 1 (bx ((g 0).2 1))]⟩ True (q8 (q7 hT ?_)) (fun _=>?_)
    ·refine z6 ?_
     exact z9 ⟨q9 [0,1,2,3,4,5] [4,5,8,59,10,60,11] rfl,trivial⟩
    have hp:p=0∨p=1:=by omega
    refine w6 (fun st=>∃ M1,M1=swp (g 0).1 0 p∧st=⟨⟨166,[(4,.p (.box F)),(5,.msl 0 1 0 2),(8,.msl 3 1 0 2),(59,i64 2),(10,i64 0),(60,i64 0),(11,i64 p)]⟩,[.cells z5 [.msl 1 1 0 2,.msl 2 1 0 2],.row z4 1 (bx (M1 0)),.row z4 1 (bx (M1 1)),.cells z5 [.msl 4 1 0 2,.msl 5 1 0 2],.row z4 1 (bx ((g 0).2 0)),.row z4 1 (bx ((g 0).2 1))]⟩) ?_ ?_
    ·rcases hp with rfl|rfl
     ·refine w9 [13,15] [] hT z8 (by rfl) ?_
      refine⟨by decide,?_⟩
      refine⟨by decide,?_⟩
      refine⟨by decide,?_⟩
      refine⟨by decide,?_⟩
      repeat first|refine⟨rfl,?_⟩|refine⟨⟨by decide,rfl⟩,?_⟩
      exact⟨_,q9 [0,1,2,3,4,5] [4,5,8,59,10,60,11] rfl,swp (g 0).1 0 0,rfl,rfl⟩
     ·refine w9 [13,15] [] hT z8 (by rfl) ?_
      refine⟨by decide,?_⟩
      refine⟨by decide,?_⟩
      refine⟨by decide,?_⟩
      refine⟨by decide,?_⟩
      repeat first|refine⟨rfl,?_⟩|refine⟨⟨by decide,rfl⟩,?_⟩
      exact⟨_,q9 [0,2,1,3,4,5] [4,5,8,59,10,60,11] rfl,swp (g 0).1 0 1,rfl,rfl⟩
    rintro _ ⟨M1,hM1,rfl⟩
    refine w6 (fun st=>∃ N1,N1=swp (g 0).2 0 p∧st=⟨⟨166,[(4,.p (.box F)),(5,.msl 0 1 0 2),(8,.msl 3 1 0 2),(59,i64 2),(10,i64 0),(60,i64 0)]⟩,[.cells z5 [.msl 1 1 0 2,.msl 2 1 0 2],.row z4 1 (bx (M1 0)),.row z4 1 (bx (M1 1)),.cells z5 [.msl 4 1 0 2,.msl 5 1 0 2],.row z4 1 (bx (N1 0)),.row z4 1 (bx (N1 1))]⟩) ?_ ?_
    ·rcases hp with rfl|rfl
     ·refine w9 [13,15] [] hT z8 (by rfl) ?_
      refine⟨by decide,?_⟩
      refine⟨by decide,?_⟩
      refine⟨by decide,?_⟩
      refine⟨by decide,?_⟩
      repeat first|refine⟨rfl,?_⟩|refine⟨⟨by decide,rfl⟩,?_⟩
      exact⟨_,q9 [0,1,2,3,4,5] [4,5,8,59,10,60] rfl,swp (g 0).2 0 0,rfl,rfl⟩
     ·refine w9 [13,15] [] hT z8 (by rfl) ?_
      refine⟨by decide,?_⟩
      refine⟨by decide,?_⟩
      refine⟨by decide,?_⟩
      refine⟨by decide,?_⟩
      repeat first|refine⟨rfl,?_⟩|refine⟨⟨by decide,rfl⟩,?_⟩
      exact⟨_,q9 [0,1,2,3,5,4] [4,5,8,59,10,60] rfl,swp (g 0).2 0 1,rfl,rfl⟩
    rintro _ ⟨N1,hN1,rfl⟩
    have hsw:J4 2 0 (g 0)=(M1,N1):=by unfold J4;rw[p1,Int.toNat_natCast,← hM1,← hN1]
    have lm:Y9 2 M1:=by rw[hM1];exact V5 l1 (by decide) p3
    have ln:Y9 2 N1:=by rw[hN1];exact V5 l2 (by decide) p3
    have hv0:(M1 0).getD 0 0≠0:=by rw[hM1];exact p4
    have hM1c:=lm 0 (by decide)
    have hN1c:=ln 0 (by decide)
    have hcc:=Z3 (l:=M1 0) (c:=0) (by rw[hM1c];decide)
    have htm:q2y 0 (M1,N1)=(Y0 M1 0 (V4 (Gf.inv ((M1 0).getD 0 0)) (M1 0)),Y0 N1 0 (V4 (Gf.inv ((M1 0).getD 0 0)) (N1 0))):=rfl
    have wi:=winv _ hv0
    generalize (M1 0).getD 0 0=v at hcc wi htm
    generalize Gf.inv v=by_ at wi htm
    have hcx:(bx (M1 0))[0+((0:Nat):Int).toNat]?=some [u8 v]:=Q7 hcc
    have w1:=wtm (M1 0) by_ hM1c
    have w2:=wtm (N1 0) by_ hN1c
    rw[hM1c]at w1
    rw[hN1c]at w2
    refine y8 ⟨⟨166,[(4,.p (.box F)),(5,.msl 0 1 0 2),(8,.msl 3 1 0 2),(59,i64 2),(10,i64 0),(60,i64 0),(12,.p (u8 by_))]⟩,[.cells z5 [.msl 1 1 0 2,.msl 2 1 0 2],.row z4 1 (bx (M1 0)),.row z4 1 (bx (M1 1)),.cells z5 [.msl 4 1 0 2,.msl 5 1 0 2],.row z4 1 (bx (N1 0)),.row z4 1 (bx (N1 1))]⟩ True (q7 hT ?_) (fun _=>?_)
    ·refine⟨by decide,?_⟩
     refine⟨⟨by decide,by decide⟩,?_⟩
     refine u7 hcx ?_
     refine x8 (u5 wi _ rfl rfl) ?_
     exact⟨q9 [0,1,2,3,4,5] [4,5,8,59,10,60,12] rfl,trivial⟩
    obtain⟨M2,hM2⟩:∃ M2,M2=Y0 M1 0 (V4 by_ (M1 0)):=⟨_,rfl⟩
    obtain⟨N2,hN2⟩:∃ N2,N2=Y0 N1 0 (V4 by_ (N1 0)):=⟨_,rfl⟩
    rw[← hM2,← hN2]at htm
    have lm2:Y9 2 M2:=by rw[hM2];exact X7 lm 0 (by rw[X4];exact hM1c)
    have ln2:Y9 2 N2:=by rw[hN2];exact X7 ln 0 (by rw[X4];exact hN1c)
    refine y8 ⟨⟨166,[(4,.p (.box F)),(5,.msl 0 1 0 2),(8,.msl 3 1 0 2),(59,i64 2),(10,i64 0),(60,i64 0),(12,.p (u8 by_))]⟩,[.cells z5 [.msl 1 1 0 2,.msl 2 1 0 2],.row z4 1 (bx (M2 0)),.row z4 1 (bx (M2 1)),.cells z5 [.msl 4 1 0 2,.msl 5 1 0 2],.row z4 1 (bx (N1 0)),.row z4 1 (bx (N1 1))]⟩ True (q7 hT ?_) (fun _=>?_)
    ·refine⟨by decide,?_⟩
     refine x8 (Q1 [1] w1 rfl rfl rfl) ?_
     rw[hM2]
     exact⟨q9 [0,1,2,3,4,5] [4,5,8,59,10,60,12] rfl,trivial⟩
    refine y8 ⟨⟨166,[(4,.p (.box F)),(5,.msl 0 1 0 2),(8,.msl 3 1 0 2),(59,i64 2),(10,i64 0),(60,i64 0)]⟩,[.cells z5 [.msl 1 1 0 2,.msl 2 1 0 2],.row z4 1 (bx (M2 0)),.row z4 1 (bx (M2 1)),.cells z5 [.msl 4 1 0 2,.msl 5 1 0 2],.row z4 1 (bx (N2 0)),.row z4 1 (bx (N2 1))]⟩ True (q7 hT ?_) (fun _=>?_)
    ·refine⟨by decide,?_⟩
     refine x8 (Q1 [4] w2 rfl rfl rfl) ?_
     rw[hN2]
     exact⟨q9 [0,1,2,3,4,5] [4,5,8,59,10,60] rfl,trivial⟩
    have hend:g 1=elS 0 (M2,N2) 2:=by rw[hs];unfold q1n;rw[hsw,htm]
    clear w1 w2 wi hM1 hN1 hM2 hN2 hsw htm hs lm ln hcc hcx hv0 hM1c hN1c
    refine q8 (q7 hT ?_)
    refine z7 ?_
    refine w7 (fun n s=>∃ (k:Nat) (j:Int) (M N:W8),n+k=2∧j=k∧elS 0 (M2,N2) k=(M,N)∧s=⟨⟨166,[(4,.p (.box F)),(5,.msl 0 1 0 2),(8,.msl 3 1 0 2),(59,i64 2),(10,i64 0),(60,i64 0),(122,.msl 0 1 0 2),(123,i64 2),(124,i64 j)]⟩,[.cells z5 [.msl 1 1 0 2,.msl 2 1 0 2],.row z4 1 (bx (M 0)),.row z4 1 (bx (M 1)),.cells z5 [.msl 4 1 0 2,.msl 5 1 0 2],.row z4 1 (bx (N 0)),.row z4 1 (bx (N 1))]⟩) 2 ⟨⟨166,_⟩,_⟩ (q9 [0,1,2,3,4,5] [4,5,8,59,10,60,122,123,124] rfl) ⟨0,0,M2,N2,rfl,rfl,rfl,rfl⟩ ?_
    rintro n2 s ⟨k,j,M,N,hnk,hj,hMN,rfl⟩
    have hlk:=q2j (r:=2) (c:=0) (by decide) (G:=(M2,N2)) lm2 ln2 k (by omega)
    rw[hMN]at hlk
    obtain⟨m1,m2⟩:=hlk
    have m1:Y9 2 M:=m1
    have m2:Y9 2 N:=m2
    have hsk:elS 0 (M2,N2) (k+1)=Y4 0 k (M,N):=by rw[elS,hMN]
    refine q8 (q7 hT ?_)
    refine q8 (z6 (x7 (fun h=>?_) (fun h=>?_)))
    ·have h:=of_decide_eq_true (show decide (j<((2:Nat):Int))=true from h)
     refine z9 ?_
     have hk4:k=0∨k=1:=by omega
     subst hj
     refine w6 (fun st=>∃ M' N',elS 0 (M2,N2) (k+1)=(M',N')∧st=⟨⟨166,[(4,.p (.box F)),(5,.msl 0 1 0 2),(8,.msl 3 1 0 2),(59,i64 2),(10,i64 0),(60,i64 0),(122,.msl 0 1 0 2),(123,i64 2),(124,i64 k)]⟩,[.cells z5 [.msl 1 1 0 2,.msl 2 1 0 2],.row z4 1 (bx (M' 0)),.row z4 1 (bx (M' 1)),.cells z5 [.msl 4 1 0 2,.msl 5 1 0 2],.row z4 1 (bx (N' 0)),.row z4 1 (bx (N' 1))]⟩) (z7 ?_) ?_
     ·rcases hk4 with rfl|rfl
      ·have hg:=Z3 (l:=M 0) (c:=0) (by rw[m1 0 (by decide)];decide)
       have hcond:∀ x,(M 0).getD 0 0=x→Y4 0 0 (M,N)=match !Nat.beq 0 0&&x != 0 with|true=>(Y0 M 0 (Y7 (M 0) (M 0) x),Y0 N 0 (Y7 (N 0) (N 0) x))|false=>(M,N):=fun x hx=>by subst hx;rfl
       generalize hx:(M 0).getD 0 0=x at hg
       rw[hcond x hx]at hsk
       clear hcond hx
       have hgx:(bx (M 0))[0+((0:Nat):Int).toNat]?=some [u8 x]:=Q7 hg
       refine q8 (q7 hT ?_)
       refine q8 (q7 hT ?_)
       refine⟨by decide,?_⟩
       refine⟨⟨by decide,by decide⟩,?_⟩
       refine u7 hgx ?_
       refine q8 (q7 hT ?_)
       refine z6 ?_
       exact z9 ⟨_,q9 [0,1,2,3,4,5] [4,5,8,59,10,60,122,123,124] rfl,M,N,hsk,rfl⟩
      ·have hg:=Z3 (l:=M 1) (c:=0) (by rw[m1 1 (by decide)];decide)
       have hcond:∀ x,(M 1).getD 0 0=x→Y4 0 1 (M,N)=match !Nat.beq 1 0&&x != 0 with|true=>(Y0 M 1 (Y7 (M 1) (M 0) x),Y0 N 1 (Y7 (N 1) (N 0) x))|false=>(M,N):=fun x hx=>by subst hx;rfl
       generalize hx:(M 1).getD 0 0=x at hg
       rw[hcond x hx]at hsk
       clear hcond hx
       have hgx:(bx (M 1))[0+((0:Nat):Int).toNat]?=some [u8 x]:=Q7 hg
       refine q8 (q7 hT ?_)
       refine q8 (q7 hT ?_)
       refine⟨by decide,?_⟩
       refine⟨⟨by decide,by decide⟩,?_⟩
       refine u7 hgx ?_
       refine q8 (q7 hT ?_)
       refine z6 (x7 (fun h=>?_) (fun h=>?_))
       ·have h:(((x.toNat:Nat):Int) != 0)=true:=h
        rw[bne_iff_ne]at h
        have hne:x≠0:=fun e=>h (by rw[e];rfl)
        rw[bne_iff_ne.mpr hne]at hsk
        have w1:=wad (M 1) (M 0) x (m1 1 (by decide)) (m1 0 (by decide))
        have w2:=wad (N 1) (N 0) x (m2 1 (by decide)) (m2 0 (by decide))
        rw[m1 1 (by decide)]at w1
        rw[m2 1 (by decide)]at w2
        refine q8 ?_
        refine w9 [10] [] hT z8 (by rfl) ?_
        refine⟨by decide,?_⟩
        refine⟨by decide,?_⟩
        refine⟨_,_,Q1 [2,1] w1 rfl rfl rfl,?_⟩
        repeat first|refine⟨rfl,?_⟩|refine⟨⟨by decide,rfl⟩,?_⟩
        refine w9 [10] [] hT z8 (by rfl) ?_
        refine⟨by decide,?_⟩
        refine⟨by decide,?_⟩
        refine⟨_,_,Q1 [5,4] w2 rfl rfl rfl,?_⟩
        repeat first|refine⟨rfl,?_⟩|refine⟨⟨by decide,rfl⟩,?_⟩
        exact⟨_,q9 [0,1,2,3,4,5] [4,5,8,59,10,60,122,123,124] rfl,_,_,hsk,rfl⟩
       ·have h:(((x.toNat:Nat):Int) != 0)=false:=h
        rw[bne_eq_false_iff_eq]at h
        have hx0:x=0:=UInt8.toNat_inj.mp (by show x.toNat=0;omega)
        rw[hx0]at hsk
        exact z9 ⟨_,q9 [0,1,2,3,4,5] [4,5,8,59,10,60,122,123,124] rfl,M,N,hsk,rfl⟩
     ·rintro _ ⟨M',N',hMN',rfl⟩
      refine q7 hT ?_
      exact⟨n2 - 1,by omega,_,q9 [0,1,2,3,4,5] [4,5,8,59,10,60,122,123,124] rfl,k+1,IntKind.i64.wrap ((k:Int)+1),M',N',by omega,by rw[x9 _ (by omega) (by omega)];rfl,hMN',rfl⟩
    ·have h:=of_decide_eq_false (show decide (j<((2:Nat):Int))=false from h)
     have hkr:k=2:=by omega
     rw[hkr,← hend]at hMN
     rw[hMN]
     refine u0 ?_
     exact⟨q9 [0,1,2,3,4,5] [4,5,8,59,60] rfl,trivial⟩
   ·refine q7 hT ?_
    exact⟨1,by decide,_,q9 [0,1,2,3,4,5] [4,5,8,59,60] rfl,(.inr (.inl ⟨rfl,rfl⟩))⟩
  ·refine q8 (q7 hT ?_)
   refine q8 (z6 ?_)
   refine z9 ?_
   obtain⟨p,p1,p2,p3,p4⟩:=hpiv 1 (by decide)
   obtain⟨l1,l2⟩:=hlen 1 (by decide)
   have hs:=hstep 1
   have wp:=y7f (g 1).1 l1 1 (by decide)
   rw[p1]at wp
   refine y8 ⟨⟨166,[(4,.p (.box F)),(5,.msl 0 1 0 2),(8,.msl 3 1 0 2),(59,i64 2),(60,i64 1)]⟩,[.cells z5 [.msl 1 1 0 2,.msl 2 1 0 2],.row z4 1 (bx ((g 2).1 0)),.row z4 1 (bx ((g 2).1 1)),.cells z5 [.msl 4 1 0 2,.msl 5 1 0 2],.row z4 1 (bx ((g 2).2 0)),.row z4 1 (bx ((g 2).2 1))]⟩ True (z7 ?_) (fun _=>?_)
   ·refine q8 (q7 hT ?_)
    refine y8 ⟨⟨166,[(4,.p (.box F)),(5,.msl 0 1 0 2),(8,.msl 3 1 0 2),(59,i64 2),(10,i64 1),(60,i64 1),(11,i64 p)]⟩,[.cells z5 [.msl 1 1 0 2,.msl 2 1 0 2],.row z4 1 (bx ((g 1).1 0)),.row z4 1 (bx ((g 1).1 1)),.cells z5 [.msl 4 1 0 2,.msl 5 1 0 2],.row z4 1 (bx ((g 1).2 0)),.row z4 1 (bx ((g 1).2 1))]⟩ True (q7 hT ?_) (fun _=>?_)
    ·refine x8 (Q1 [0,1,2] wp rfl rfl rfl) ?_
     exact⟨q9 [0,1,2,3,4,5] [4,5,8,59,10,60,11] rfl,trivial⟩
    refine y8 ⟨⟨166,[(4,.p (.box F)),(5,.msl 0 1 0 2),(8,.msl 3 1 0 2),(59,i64 2),(10,i64 1),(60,i64 1),(11,i64 p)]⟩,[.cells z5 [.msl 1 1 0 2,.msl 2 1 0 2],.row z4 1 (bx ((g 1).1 0)),.row z4 1 (bx ((g 1).1 1)),.cells z5 [.msl 4 1 0 2,.msl 5 1 0 2],.row z4 1 (bx ((g 1).2 0)),.row z4 1 (bx ((g 1).2 1))]⟩ True (q8 (q7 hT ?_)) (fun _=>?_)
    ·refine z6 ?_
     exact z9 ⟨q9 [0,1,2,3,4,5] [4,5,8,59,10,60,11] rfl,trivial⟩
    have hp:p=1:=by omega
    refine w6 (fun st=>∃ M1,M1=swp (g 1).1 1 p∧st=⟨⟨166,[(4,.p (.box F)),(5,.msl 0 1 0 2),(8,.msl 3 1 0 2),(59,i64 2),(10,i64 1),(60,i64 1),(11,i64 p)]⟩,[.cells z5 [.msl 1 1 0 2,.msl 2 1 0 2],.row z4 1 (bx (M1 0)),.row z4 1 (bx (M1 1)),.cells z5 [.msl 4 1 0 2,.msl 5 1 0 2],.row z4 1 (bx ((g 1).2 0)),.row z4 1 (bx ((g 1).2 1))]⟩) ?_ ?_
    ·rcases hp with rfl
     ·refine w9 [13,15] [] hT z8 (by rfl) ?_
      refine⟨by decide,?_⟩
      refine⟨by decide,?_⟩
      refine⟨by decide,?_⟩
      refine⟨by decide,?_⟩
      repeat first|refine⟨rfl,?_⟩|refine⟨⟨by decide,rfl⟩,?_⟩
      exact⟨_,q9 [0,1,2,3,4,5] [4,5,8,59,10,60,11] rfl,swp (g 1).1 1 1,rfl,rfl⟩
    rintro _ ⟨M1,hM1,rfl⟩
    refine w6 (fun st=>∃ N1,N1=swp (g 1).2 1 p∧st=⟨⟨166,[(4,.p (.box F)),(5,.msl 0 1 0 2),(8,.msl 3 1 0 2),(59,i64 2),(10,i64 1),(60,i64 1)]⟩,[.cells z5 [.msl 1 1 0 2,.msl 2 1 0 2],.row z4 1 (bx (M1 0)),.row z4 1 (bx (M1 1)),.cells z5 [.msl 4 1 0 2,.msl 5 1 0 2],.row z4 1 (bx (N1 0)),.row z4 1 (bx (N1 1))]⟩) ?_ ?_
    ·rcases hp with rfl
     ·refine w9 [13,15] [] hT z8 (by rfl) ?_
      refine⟨by decide,?_⟩
      refine⟨by decide,?_⟩
      refine⟨by decide,?_⟩
      refine⟨by decide,?_⟩
      repeat first|refine⟨rfl,?_⟩|refine⟨⟨by decide,rfl⟩,?_⟩
      exact⟨_,q9 [0,1,2,3,4,5] [4,5,8,59,10,60] rfl,swp (g 1).2 1 1,rfl,rfl⟩
    rintro _ ⟨N1,hN1,rfl⟩
    have hsw:J4 2 1 (g 1)=(M1,N1):=by unfold J4;rw[p1,Int.toNat_natCast,← hM1,← hN1]
    have lm:Y9 2 M1:=by rw[hM1];exact V5 l1 (by decide) p3
    have ln:Y9 2 N1:=by rw[hN1];exact V5 l2 (by decide) p3
    have hv0:(M1 1).getD 1 0≠0:=by rw[hM1];exact p4
    have hM1c:=lm 1 (by decide)
    have hN1c:=ln 1 (by decide)
    have hcc:=Z3 (l:=M1 1) (c:=1) (by rw[hM1c];decide)
    have htm:q2y 1 (M1,N1)=(Y0 M1 1 (V4 (Gf.inv ((M1 1).getD 1 0)) (M1 1)),Y0 N1 1 (V4 (Gf.inv ((M1 1).getD 1 0)) (N1 1))):=rfl
    have wi:=winv _ hv0
    generalize (M1 1).getD 1 0=v at hcc wi htm
    generalize Gf.inv v=by_ at wi htm
    have hcx:(bx (M1 1))[0+((1:Nat):Int).toNat]?=some [u8 v]:=Q7 hcc
    have w1:=wtm (M1 1) by_ hM1c
    have w2:=wtm (N1 1) by_ hN1c
    rw[hM1c]at w1
    rw[hN1c]at w2
    refine y8 ⟨⟨166,[(4,.p (.box F)),(5,.msl 0 1 0 2),(8,.msl 3 1 0 2),(59,i64 2),(10,i64 1),(60,i64 1),(12,.p (u8 by_))]⟩,[.cells z5 [.msl 1 1 0 2,.msl 2 1 0 2],.row z4 1 (bx (M1 0)),.row z4 1 (bx (M1 1)),.cells z5 [.msl 4 1 0 2,.msl 5 1 0 2],.row z4 1 (bx (N1 0)),.row z4 1 (bx (N1 1))]⟩ True (q7 hT ?_) (fun _=>?_)
    ·refine⟨by decide,?_⟩
     refine⟨⟨by decide,by decide⟩,?_⟩
     refine u7 hcx ?_
     refine x8 (u5 wi _ rfl rfl) ?_
     exact⟨q9 [0,1,2,3,4,5] [4,5,8,59,10,60,12] rfl,trivial⟩
    obtain⟨M2,hM2⟩:∃ M2,M2=Y0 M1 1 (V4 by_ (M1 1)):=⟨_,rfl⟩
    obtain⟨N2,hN2⟩:∃ N2,N2=Y0 N1 1 (V4 by_ (N1 1)):=⟨_,rfl⟩
    rw[← hM2,← hN2]at htm
    have lm2:Y9 2 M2:=by rw[hM2];exact X7 lm 1 (by rw[X4];exact hM1c)
    have ln2:Y9 2 N2:=by rw[hN2];exact X7 ln 1 (by rw[X4];exact hN1c)
    refine y8 ⟨⟨166,[(4,.p (.box F)),(5,.msl 0 1 0 2),(8,.msl 3 1 0 2),(59,i64 2),(10,i64 1),(60,i64 1),(12,.p (u8 by_))]⟩,[.cells z5 [.msl 1 1 0 2,.msl 2 1 0 2],.row z4 1 (bx (M2 0)),.row z4 1 (bx (M2 1)),.cells z5 [.msl 4 1 0 2,.msl 5 1 0 2],.row z4 1 (bx (N1 0)),.row z4 1 (bx (N1 1))]⟩ True (q7 hT ?_) (fun _=>?_)
    ·refine⟨by decide,?_⟩
     refine x8 (Q1 [2] w1 rfl rfl rfl) ?_
     rw[hM2]
     exact⟨q9 [0,1,2,3,4,5] [4,5,8,59,10,60,12] rfl,trivial⟩
    refine y8 ⟨⟨166,[(4,.p (.box F)),(5,.msl 0 1 0 2),(8,.msl 3 1 0 2),(59,i64 2),(10,i64 1),(60,i64 1)]⟩,[.cells z5 [.msl 1 1 0 2,.msl 2 1 0 2],.row z4 1 (bx (M2 0)),.row z4 1 (bx (M2 1)),.cells z5 [.msl 4 1 0 2,.msl 5 1 0 2],.row z4 1 (bx (N2 0)),.row z4 1 (bx (N2 1))]⟩ True (q7 hT ?_) (fun _=>?_)
    ·refine⟨by decide,?_⟩
     refine x8 (Q1 [5] w2 rfl rfl rfl) ?_
     rw[hN2]
     exact⟨q9 [0,1,2,3,4,5] [4,5,8,59,10,60] rfl,trivial⟩
    have hend:g 2=elS 1 (M2,N2) 2:=by rw[hs];unfold q1n;rw[hsw,htm]
    clear w1 w2 wi hM1 hN1 hM2 hN2 hsw htm hs lm ln hcc hcx hv0 hM1c hN1c
    refine q8 (q7 hT ?_)
    refine z7 ?_
    refine w7 (fun n s=>∃ (k:Nat) (j:Int) (M N:W8),n+k=2∧j=k∧elS 1 (M2,N2) k=(M,N)∧s=⟨⟨166,[(4,.p (.box F)),(5,.msl 0 1 0 2),(8,.msl 3 1 0 2),(59,i64 2),(10,i64 1),(60,i64 1),(122,.msl 0 1 0 2),(123,i64 2),(124,i64 j)]⟩,[.cells z5 [.msl 1 1 0 2,.msl 2 1 0 2],.row z4 1 (bx (M 0)),.row z4 1 (bx (M 1)),.cells z5 [.msl 4 1 0 2,.msl 5 1 0 2],.row z4 1 (bx (N 0)),.row z4 1 (bx (N 1))]⟩) 2 ⟨⟨166,_⟩,_⟩ (q9 [0,1,2,3,4,5] [4,5,8,59,10,60,122,123,124] rfl) ⟨0,0,M2,N2,rfl,rfl,rfl,rfl⟩ ?_
    rintro n2 s ⟨k,j,M,N,hnk,hj,hMN,rfl⟩
    have hlk:=q2j (r:=2) (c:=1) (by decide) (G:=(M2,N2)) lm2 ln2 k (by omega)
    rw[hMN]at hlk
    obtain⟨m1,m2⟩:=hlk
    have m1:Y9 2 M:=m1
    have m2:Y9 2 N:=m2
    have hsk:elS 1 (M2,N2) (k+1)=Y4 1 k (M,N):=by rw[elS,hMN]
    refine q8 (q7 hT ?_)
    refine q8 (z6 (x7 (fun h=>?_) (fun h=>?_)))
    ·have h:=of_decide_eq_true (show decide (j<((2:Nat):Int))=true from h)
     refine z9 ?_
     have hk4:k=0∨k=1:=by omega
     subst hj
     refine w6 (fun st=>∃ M' N',elS 1 (M2,N2) (k+1)=(M',N')∧st=⟨⟨166,[(4,.p (.box F)),(5,.msl 0 1 0 2),(8,.msl 3 1 0 2),(59,i64 2),(10,i64 1),(60,i64 1),(122,.msl 0 1 0 2),(123,i64 2),(124,i64 k)]⟩,[.cells z5 [.msl 1 1 0 2,.msl 2 1 0 2],.row z4 1 (bx (M' 0)),.row z4 1 (bx (M' 1)),.cells z5 [.msl 4 1 0 2,.msl 5 1 0 2],.row z4 1 (bx (N' 0)),.row z4 1 (bx (N' 1))]⟩) (z7 ?_) ?_
     ·rcases hk4 with rfl|rfl
      ·have hg:=Z3 (l:=M 0) (c:=1) (by rw[m1 0 (by decide)];decide)
       have hcond:∀ x,(M 0).getD 1 0=x→Y4 1 0 (M,N)=match !Nat.beq 0 1&&x != 0 with|true=>(Y0 M 0 (Y7 (M 0) (M 1) x),Y0 N 0 (Y7 (N 0) (N 1) x))|false=>(M,N):=fun x hx=>by subst hx;rfl
       generalize hx:(M 0).getD 1 0=x at hg
       rw[hcond x hx]at hsk
       clear hcond hx
       have hgx:(bx (M 0))[0+((1:Nat):Int).toNat]?=some [u8 x]:=Q7 hg
       refine q8 (q7 hT ?_)
       refine q8 (q7 hT ?_)
       refine⟨by decide,?_⟩
       refine⟨⟨by decide,by decide⟩,?_⟩
       refine u7 hgx ?_
       refine q8 (q7 hT ?_)
       refine z6 (x7 (fun h=>?_) (fun h=>?_))
       ·have h:(((x.toNat:Nat):Int) != 0)=true:=h
        rw[bne_iff_ne]at h
        have hne:x≠0:=fun e=>h (by rw[e];rfl)
        rw[bne_iff_ne.mpr hne]at hsk
        have w1:=wad (M 0) (M 1) x (m1 0 (by decide)) (m1 1 (by decide))
        have w2:=wad (N 0) (N 1) x (m2 0 (by decide)) (m2 1 (by decide))
        rw[m1 0 (by decide)]at w1
        rw[m2 0 (by decide)]at w2
        refine q8 ?_
        refine w9 [10] [] hT z8 (by rfl) ?_
        refine⟨by decide,?_⟩
        refine⟨by decide,?_⟩
        refine⟨_,_,Q1 [1,2] w1 rfl rfl rfl,?_⟩
        repeat first|refine⟨rfl,?_⟩|refine⟨⟨by decide,rfl⟩,?_⟩
        refine w9 [10] [] hT z8 (by rfl) ?_
        refine⟨by decide,?_⟩
        refine⟨by decide,?_⟩
        refine⟨_,_,Q1 [4,5] w2 rfl rfl rfl,?_⟩
        repeat first|refine⟨rfl,?_⟩|refine⟨⟨by decide,rfl⟩,?_⟩
        exact⟨_,q9 [0,1,2,3,4,5] [4,5,8,59,10,60,122,123,124] rfl,_,_,hsk,rfl⟩
       ·have h:(((x.toNat:Nat):Int) != 0)=false:=h
        rw[bne_eq_false_iff_eq]at h
        have hx0:x=0:=UInt8.toNat_inj.mp (by show x.toNat=0;omega)
        rw[hx0]at hsk
        exact z9 ⟨_,q9 [0,1,2,3,4,5] [4,5,8,59,10,60,122,123,124] rfl,M,N,hsk,rfl⟩
      ·have hg:=Z3 (l:=M 1) (c:=1) (by rw[m1 1 (by decide)];decide)
       have hcond:∀ x,(M 1).getD 1 0=x→Y4 1 1 (M,N)=match !Nat.beq 1 1&&x != 0 with|true=>(Y0 M 1 (Y7 (M 1) (M 1) x),Y0 N 1 (Y7 (N 1) (N 1) x))|false=>(M,N):=fun x hx=>by subst hx;rfl
       generalize hx:(M 1).getD 1 0=x at hg
       rw[hcond x hx]at hsk
       clear hcond hx
       have hgx:(bx (M 1))[0+((1:Nat):Int).toNat]?=some [u8 x]:=Q7 hg
       refine q8 (q7 hT ?_)
       refine q8 (q7 hT ?_)
       refine⟨by decide,?_⟩
       refine⟨⟨by decide,by decide⟩,?_⟩
       refine u7 hgx ?_
       refine q8 (q7 hT ?_)
       refine z6 ?_
       exact z9 ⟨_,q9 [0,1,2,3,4,5] [4,5,8,59,10,60,122,123,124] rfl,M,N,hsk,rfl⟩
     ·rintro _ ⟨M',N',hMN',rfl⟩
      refine q7 hT ?_
      exact⟨n2 - 1,by omega,_,q9 [0,1,2,3,4,5] [4,5,8,59,10,60,122,123,124] rfl,k+1,IntKind.i64.wrap ((k:Int)+1),M',N',by omega,by rw[x9 _ (by omega) (by omega)];rfl,hMN',rfl⟩
    ·have h:=of_decide_eq_false (show decide (j<((2:Nat):Int))=false from h)
     have hkr:k=2:=by omega
     rw[hkr,← hend]at hMN
     rw[hMN]
     refine u0 ?_
     exact⟨q9 [0,1,2,3,4,5] [4,5,8,59,60] rfl,trivial⟩
   ·refine q7 hT ?_
    exact⟨0,by decide,_,q9 [0,1,2,3,4,5] [4,5,8,59,60] rfl,(.inr (.inr ⟨rfl,rfl⟩))⟩
  ·refine q8 (q7 hT ?_)
   refine q8 (z6 ?_)
   refine u0 ?_
   exact⟨q9 [3,4,5] [8] rfl,trivial⟩
 refine q8 (q7 hT ?_)
 refine x6 ?_
 exact y9 [0,1,2] ⟨rfl,rfl⟩ rfl
set_option maxHeartbeats 16000000 in
set_option maxRecDepth 20000 in
theorem v5n (a0 a1 a2:y7)(hA:∀ s∈([a0,a1,a2]:List y7),s.length=3)(hok:y0d 3 [a0,a1,a2]=true) :
 AF Tryz.prog q8x [.p (.sl 1 (y6 [a0,a1,a2]))] [] (Q0 (.tup [.p (.sl 1 (y6 [(gs 3 [a0,a1,a2] 3).2 0,(gs 3 [a0,a1,a2] 3).2 1,(gs 3 [a0,a1,a2] 3).2 2])),i64 0]) []):=by
 have hlen:=y0e hok rfl hA
 refine x1r (M:=(gs 3 [a0,a1,a2] 3).2) (n:=3) (hlen 3 (Nat.le_refl _)).2 ?_
 have hpiv:=fun(c:Nat) (hc:c<3)=>z3n hc (z7v hok hc)
 have wA:=J1 [a0,a1,a2] 3 (show 1≤3 by decide) (show 3≤64 by decide) (by decide) (by decide) hA
 have ha0:a0.length=3:=hA a0 (by simp)
 have hx0:=u6 a0
 have ha1:a1.length=3:=hA a1 (by simp)
 have hx1:=u6 a1
 have ha2:a2.length=3:=hA a2 (by simp)
 have hx2:=u6 a2
 have hstep:∀ c,gs 3 [a0,a1,a2] (c+1)=q1n 3 c (gs 3 [a0,a1,a2] c):=fun _=>rfl
 have hg0:gs 3 [a0,a1,a2] 0=gs0 3 [a0,a1,a2]:=rfl
 generalize gs 3 [a0,a1,a2]=g at hlen hpiv hstep hg0 ⊢
 have wn:=q3e
 have wo:=w0d
 have winv:=y6x
 have wtm:=fun(t:y7) (x:UInt8) (ht:t.length=3)=>z3k t x (by omega)
 have wad:=fun(to row:y7) (x:UInt8) (ht:to.length=3) (hr:row.length=3)=>z7u to row x (by omega) (by omega)
 unfold q2q at wn winv wtm wad
 generalize fP=F at wn winv wtm wad
 refine u9 hT z3c rfl rfl z3d rfl ?_
 refine q8 (q7 hT ?_)
 refine y8 ⟨⟨166,[(0,.p (.sl 1 (y6 [a0,a1,a2])))]⟩,[]⟩ True (q8 (q7 hT ?_)) (fun _=>?_)
 ·refine x8 (u5 wA _ rfl rfl) ?_
  refine⟨by decide,u7 rfl ?_⟩
  refine z6 (x7 (fun h=>?_) (fun h=>?_))
  ·have h:((((bx a0).length:Nat):Int) != ((3:Nat):Int))=true:=h
   rw[bne_iff_ne]at h
   omega
  exact z9 ⟨q9 [] [0] rfl,trivial⟩
 refine q8 (q7 hT ?_)
 refine x8 (u5 wn _ rfl rfl) ?_
 refine y8 ⟨⟨166,[(0,.p (.sl 1 (y6 [a0,a1,a2]))),(4,.p (.box F)),(5,.msl 0 1 0 3)]⟩,[.cells z5 [.p (.raw (.slice none 0 0)),.p (.raw (.slice none 0 0)),.p (.raw (.slice none 0 0))]]⟩ True (q7 hT ?_) (fun _=>?_)
 ·refine⟨⟨rfl,(show (0:Int)≤((3:Nat):Int) by decide),(show ((3:Nat):Int)*24≤140737488355328 by decide),(show ((3:Nat):Int)≤140737488355328 by decide)⟩,?_⟩
  exact⟨Wk.trans (J3 0 [.raw (.slice none 0 0),.raw (.slice none 0 0),.raw (.slice none 0 0)] rfl rfl (by decide)) (q9 [0] [0,4,5] rfl),trivial⟩
 refine y8 ⟨⟨166,[(0,.p (.sl 1 (y6 [a0,a1,a2]))),(4,.p (.box F)),(5,.msl 0 1 0 3)]⟩,[.cells z5 [.msl 1 1 0 3,.msl 2 1 0 3,.msl 3 1 0 3],.row z4 1 (bx a0),.row z4 1 (bx a1),.row z4 1 (bx a2)]⟩ True (q8 (q7 hT ?_)) (fun _=>?_)
 ·refine z7 ?_
  refine w7 (fun n s=>(n=3∧s=⟨⟨166,[(0,.p (.sl 1 (y6 [a0,a1,a2]))),(4,.p (.box F)),(5,.msl 0 1 0 3),(32,.p (.sl 1 (y6 [a0,a1,a2]))),(33,i64 3),(34,i64 0)]⟩,[.cells z5 [.p (.raw (.slice none 0 0)),.p (.raw (.slice none 0 0)),.p (.raw (.slice none 0 0))]]⟩)∨(n=2∧s=⟨⟨166,[(0,.p (.sl 1 (y6 [a0,a1,a2]))),(4,.p (.box F)),(5,.msl 0 1 0 3),(32,.p (.sl 1 (y6 [a0,a1,a2]))),(33,i64 3),(34,i64 1)]⟩,[.cells z5 [.msl 1 1 0 3,.p (.raw (.slice none 0 0)),.p (.raw (.slice none 0 0))],.row z4 1 (bx a0)]⟩)∨(n=1∧s=⟨⟨166,[(0,.p (.sl 1 (y6 [a0,a1,a2]))),(4,.p (.box F)),(5,.msl 0 1 0 3),(32,.p (.sl 1 (y6 [a0,a1,a2]))),(33,i64 3),(34,i64 2)]⟩,[.cells z5 [.msl 1 1 0 3,.msl 2 1 0 3,.p (.raw (.slice none 0 0))],.row z4 1 (bx a0),.row z4 1 (bx a1)]⟩)∨(n=0∧s=⟨⟨166,[(0,.p (.sl 1 (y6 [a0,a1,a2]))),(4,.p (.box F)),(5,.msl 0 1 0 3),(32,.p (.sl 1 (y6 [a0,a1,a2]))),(33,i64 3),(34,i64 3)]⟩,[.cells z5 [.msl 1 1 0 3,.msl 2 1 0 3,.msl 3 1 0 3],.row z4 1 (bx a0),.row z4 1 (bx a1),.row z4 1 (bx a2)]⟩)) 3 ⟨⟨166,_⟩,_⟩ (q9 [0] [0,4,5,32,33,34] rfl) (.inl ⟨rfl,rfl⟩) ?_
  rintro n s (⟨rfl,rfl⟩|⟨rfl,rfl⟩|⟨rfl,rfl⟩|⟨rfl,rfl⟩)
  ·refine q8 (q7 hT ?_)
   refine q8 (z6 ?_)
   refine z9 ?_
   refine w6 (fun st=>∃ Y,Y=bx a0∧st=⟨⟨166,[(0,.p (.sl 1 (y6 [a0,a1,a2]))),(4,.p (.box F)),(5,.msl 0 1 0 3),(32,.p (.sl 1 (y6 [a0,a1,a2]))),(33,i64 3),(34,i64 0)]⟩,[.cells z5 [.msl 1 1 0 3,.p (.raw (.slice none 0 0)),.p (.raw (.slice none 0 0))],.row z4 1 (Y)]⟩) (z7 ?_) ?_
   ·refine q8 (q7 hT ?_)
    refine⟨by decide,u7 rfl ?_⟩
    refine w6 (fun st=>∃ (m:Nat) (X:List (List PV)),m=3∧X.length=3∧st=⟨⟨166,[(0,.p (.sl 1 (y6 [a0,a1,a2]))),(4,.p (.box F)),(5,.msl 0 1 0 3),(32,.p (.sl 1 (y6 [a0,a1,a2]))),(33,i64 3),(34,i64 0),(6,i64 0),(7,bA a0)]⟩,[.cells z5 [.msl 1 1 0 m,.p (.raw (.slice none 0 0)),.p (.raw (.slice none 0 0))],.row z4 1 (X)]⟩) (q7 hT ?_) ?_
    ·refine⟨⟨rfl,by omega,by show (((bx a0).length:Nat):Int)*1≤_;omega,by omega⟩,?_⟩
     refine⟨by decide,?_⟩
     exact⟨_,q9 [0,1] [0,4,5,32,33,34,6,7] rfl,_,_,(by rw[Int.toNat_natCast];omega),(by rw[List.length_replicate,Int.toNat_natCast];omega),rfl⟩
    rintro _ ⟨m,X,rfl,hX,rfl⟩
    refine q7 hT ?_
    refine⟨by decide,?_⟩
    refine⟨⟨by omega,by omega⟩,?_⟩
    refine⟨_,q9 [0,1] [0,4,5,32,33,34] rfl,_,?_,rfl⟩
    exact q2w (by omega)
   ·rintro _ ⟨Y,rfl,rfl⟩
    refine q7 hT ?_
    exact⟨2,by decide,_,q9 [0,1] [0,4,5,32,33,34] rfl,(.inr (.inl ⟨rfl,rfl⟩))⟩
  ·refine q8 (q7 hT ?_)
   refine q8 (z6 ?_)
   refine z9 ?_
   refine w6 (fun st=>∃ Y,Y=bx a1∧st=⟨⟨166,[(0,.p (.sl 1 (y6 [a0,a1,a2]))),(4,.p (.box F)),(5,.msl 0 1 0 3),(32,.p (.sl 1 (y6 [a0,a1,a2]))),(33,i64 3),(34,i64 1)]⟩,[.cells z5 [.msl 1 1 0 3,.msl 2 1 0 3,.p (.raw (.slice none 0 0))],.row z4 1 (bx a0),.row z4 1 (Y)]⟩) (z7 ?_) ?_
   ·refine q8 (q7 hT ?_)
    refine⟨by decide,u7 rfl ?_⟩
    refine w6 (fun st=>∃ (m:Nat) (X:List (List PV)),m=3∧X.length=3∧st=⟨⟨166,[(0,.p (.sl 1 (y6 [a0,a1,a2]))),(4,.p (.box F)),(5,.msl 0 1 0 3),(32,.p (.sl 1 (y6 [a0,a1,a2]))),(33,i64 3),(34,i64 1),(6,i64 1),(7,bA a1)]⟩,[.cells z5 [.msl 1 1 0 3,.msl 2 1 0 m,.p (.raw (.slice none 0 0))],.row z4 1 (bx a0),.row z4 1 (X)]⟩) (q7 hT ?_) ?_
    ·refine⟨⟨rfl,by omega,by show (((bx a1).length:Nat):Int)*1≤_;omega,by omega⟩,?_⟩
     refine⟨by decide,?_⟩
     exact⟨_,q9 [0,1,2] [0,4,5,32,33,34,6,7] rfl,_,_,(by rw[Int.toNat_natCast];omega),(by rw[List.length_replicate,Int.toNat_natCast];omega),rfl⟩
    rintro _ ⟨m,X,rfl,hX,rfl⟩
    refine q7 hT ?_
    refine⟨by decide,?_⟩
    refine⟨⟨by omega,by omega⟩,?_⟩
    refine⟨_,q9 [0,1,2] [0,4,5,32,33,34] rfl,_,?_,rfl⟩
    exact q2w (by omega)
   ·rintro _ ⟨Y,rfl,rfl⟩
    refine q7 hT ?_
    exact⟨1,by decide,_,q9 [0,1,2] [0,4,5,32,33,34] rfl,(.inr (.inr (.inl ⟨rfl,rfl⟩)))⟩
  ·refine q8 (q7 hT ?_)
   refine q8 (z6 ?_)
   refine z9 ?_
   refine w6 (fun st=>∃ Y,Y=bx a2∧st=⟨⟨166,[(0,.p (.sl 1 (y6 [a0,a1,a2]))),(4,.p (.box F)),(5,.msl 0 1 0 3),(32,.p (.sl 1 (y6 [a0,a1,a2]))),(33,i64 3),(34,i64 2)]⟩,[.cells z5 [.msl 1 1 0 3,.msl 2 1 0 3,.msl 3 1 0 3],.row z4 1 (bx a0),.row z4 1 (bx a1),.row z4 1 (Y)]⟩) (z7 ?_) ?_
   ·refine q8 (q7 hT ?_)
    refine⟨by decide,u7 rfl ?_⟩
    refine w6 (fun st=>∃ (m:Nat) (X:List (List PV)),m=3∧X.length=3∧st=⟨⟨166,[(0,.p (.sl 1 (y6 [a0,a1,a2]))),(4,.p (.box F)),(5,.msl 0 1 0 3),(32,.p (.sl 1 (y6 [a0,a1,a2]))),(33,i64 3),(34,i64 2),(6,i64 2),(7,bA a2)]⟩,[.cells z5 [.msl 1 1 0 3,.msl 2 1 0 3,.msl 3 1 0 m],.row z4 1 (bx a0),.row z4 1 (bx a1),.row z4 1 (X)]⟩) (q7 hT ?_) ?_
    ·refine⟨⟨rfl,by omega,by show (((bx a2).length:Nat):Int)*1≤_;omega,by omega⟩,?_⟩
     refine⟨by decide,?_⟩
     exact⟨_,q9 [0,1,2,3] [0,4,5,32,33,34,6,7] rfl,_,_,(by rw[Int.toNat_natCast];omega),(by rw[List.length_replicate,Int.toNat_natCast];omega),rfl⟩
    rintro _ ⟨m,X,rfl,hX,rfl⟩
    refine q7 hT ?_
    refine⟨by decide,?_⟩
    refine⟨⟨by omega,by omega⟩,?_⟩
    refine⟨_,q9 [0,1,2,3] [0,4,5,32,33,34] rfl,_,?_,rfl⟩
    exact q2w (by omega)
   ·rintro _ ⟨Y,rfl,rfl⟩
    refine q7 hT ?_
    exact⟨0,by decide,_,q9 [0,1,2,3] [0,4,5,32,33,34] rfl,(.inr (.inr (.inr ⟨rfl,rfl⟩)))⟩
  ·refine q8 (q7 hT ?_)
   refine q8 (z6 ?_)
   refine u0 ?_
   exact⟨q9 [0,1,2,3] [0,4,5] rfl,trivial⟩
 refine y8 ⟨⟨166,[(4,.p (.box F)),(5,.msl 0 1 0 3),(8,.msl 4 1 0 3)]⟩,[.cells z5 [.msl 1 1 0 3,.msl 2 1 0 3,.msl 3 1 0 3],.row z4 1 (bx ((g 0).1 0)),.row z4 1 (bx ((g 0).1 1)),.row z4 1 (bx ((g 0).1 2)),.cells z5 [.msl 5 1 0 3,.msl 6 1 0 3,.msl 7 1 0 3],.row z4 1 (bx ((g 0).2 0)),.row z4 1 (bx ((g 0).2 1)),.row z4 1 (bx ((g 0).2 2))]⟩ True (q7 hT ?_) (fun _=>?_)
 ·refine x8 (q1t wo _ rfl) ?_
  rw[hg0]
  exact⟨q9 [0,1,2,3,4,5,6,7] [4,5,8] rfl,trivial⟩
 refine y8 ⟨⟨166,[(8,.msl 0 1 0 3)]⟩,[.cells z5 [.msl 1 1 0 3,.msl 2 1 0 3,.msl 3 1 0 3],.row z4 1 (bx ((g 3).2 0)),.row z4 1 (bx ((g 3).2 1)),.row z4 1 (bx ((g 3).2 2))]⟩ True (q8 (q7 hT ?_)) (fun _=>?_)
 ·refine z7 ?_
  refine w7 (fun n s=>(n=3∧s=⟨⟨166,[(4,.p (.box F)),(5,.msl 0 1 0 3),(8,.msl 4 1 0 3),(59,i64 3),(60,i64 0)]⟩,[.cells z5 [.msl 1 1 0 3,.msl 2 1 0 3,.msl 3 1 0 3],.row z4 1 (bx ((g 0).1 0)),.row z4 1 (bx ((g 0).1 1)),.row z4 1 (bx ((g 0).1 2)),.cells z5 [.msl 5 1 0 3,.msl 6 1 0 3,.msl 7 1 0 3],.row z4 1 (bx ((g 0).2 0)),.row z4 1 (bx ((g 0).2 1)),.row z4 1 (bx ((g 0).2 2))]⟩)∨(n=2∧s=⟨⟨166,[(4,.p (.box F)),(5,.msl 0 1 0 3),(8,.msl 4 1 0 3),(59,i64 3),(60,i64 1)]⟩,[.cells z5 [.msl 1 1 0 3,.msl 2 1 0 3,.msl 3 1 0 3],.row z4 1 (bx ((g 1).1 0)),.row z4 1 (bx ((g 1).1 1)),.row z4 1 (bx ((g 1).1 2)),.cells z5 [.msl 5 1 0 3,.msl 6 1 0 3,.msl 7 1 0 3],.row z4 1 (bx ((g 1).2 0)),.row z4 1 (bx ((g 1).2 1)),.row z4 1 (bx ((g 1).2 2))]⟩)∨(n=1∧s=⟨⟨166,[(4,.p (.box F)),(5,.msl 0 1 0 3),(8,.msl 4 1 0 3),(59,i64 3),(60,i64 2)]⟩,[.cells z5 [.msl 1 1 0 3,.msl 2 1 0 3,.msl 3 1 0 3],.row z4 1 (bx ((g 2).1 0)),.row z4 1 (bx ((g 2).1 1)),.row z4 1 (bx ((g 2).1 2)),.cells z5 [.msl 5 1 0 3,.msl 6 1 0 3,.msl 7 1 0 3],.row z4 1 (bx ((g 2).2 0)),.row z4 1 (bx ((g 2).2 1)),.row z4 1 (bx ((g 2).2 2))]⟩)∨(n=0∧s=⟨⟨166,[(4,.p (.box F)),(5,.msl 0 1 0 3),(8,.msl 4 1 0 3),(59,i64 3),(60,i64 3)]⟩,[.cells z5 [.msl 1 1 0 3,.msl 2 1 0 3,.msl 3 1 0 3],.row z4 1 (bx ((g 3).1 0)),.row z4 1 (bx ((g 3).1 1)),.row z4 1 (bx ((g 3).1 2)),.cells z5 [.msl 5 1 0 3,.msl 6 1 0 3,.msl 7 1 0 3],.row z4 1 (bx ((g 3).2 0)),.row z4 1 (bx ((g 3).2 1)),.row z4 1 (bx ((g 3).2 2))]⟩)) 3 ⟨⟨166,_⟩,_⟩ (q9 [0,1,2,3,4,5,6,7] [4,5,8,59,60] rfl) (.inl ⟨rfl,rfl⟩) ?_
  rintro n s (⟨rfl,rfl⟩|⟨rfl,rfl⟩|⟨rfl,rfl⟩|⟨rfl,rfl⟩)
  ·refine q8 (q7 hT ?_)
   refine q8 (z6 ?_)
   refine z9 ?_
   obtain⟨p,p1,p2,p3,p4⟩:=hpiv 0 (by decide)
   obtain⟨l1,l2⟩:=hlen 0 (by decide)
   have hs:=hstep 0
   have wp:=z5f (g 0).1 l1 0 (by decide)
   rw[p1]at wp
   refine y8 ⟨⟨166,[(4,.p (.box F)),(5,.msl 0 1 0 3),(8,.msl 4 1 0 3),(59,i64 3),(60,i64 0)]⟩,[.cells z5 [.msl 1 1 0 3,.msl 2 1 0 3,.msl 3 1 0 3],.row z4 1 (bx ((g 1).1 0)),.row z4 1 (bx ((g 1).1 1)),.row z4 1 (bx ((g 1).1 2)),.cells z5 [.msl 5 1 0 3,.msl 6 1 0 3,.msl 7 1 0 3],.row z4 1 (bx ((g 1).2 0)),.row z4 1 (bx ((g 1).2 1)),.row z4 1 (bx ((g 1).2 2))]⟩ True (z7 ?_) (fun _=>?_)
   ·refine q8 (q7 hT ?_)
    refine y8 ⟨⟨166,[(4,.p (.box F)),(5,.msl 0 1 0 3),(8,.msl 4 1 0 3),(59,i64 3),(10,i64 0),(60,i64 0),(11,i64 p)]⟩,[.cells z5 [.msl 1 1 0 3,.msl 2 1 0 3,.msl 3 1 0 3],.row z4 1 (bx ((g 0).1 0)),.row z4 1 (bx ((g 0).1 1)),.row z4 1 (bx ((g 0).1 2)),.cells z5 [.msl 5 1 0 3,.msl 6 1 0 3,.msl 7 1 0 3],.row z4 1 (bx ((g 0).2 0)),.row z4 1 (bx ((g 0).2 1)),.row z4 1 (bx ((g 0).2 2))]⟩ True (q7 hT ?_) (fun _=>?_)
    ·refine x8 (Q1 [0,1,2,3] wp rfl rfl rfl) ?_
     exact⟨q9 [0,1,2,3,4,5,6,7] [4,5,8,59,10,60,11] rfl,trivial⟩
    refine y8 ⟨⟨166,[(4,.p (.box F)),(5,.msl 0 1 0 3),(8,.msl 4 1 0 3),(59,i64 3),(10,i64 0),(60,i64 0),(11,i64 p)]⟩,[.cells z5 [.msl 1 1 0 3,.msl 2 1 0 3,.msl 3 1 0 3],.row z4 1 (bx ((g 0).1 0)),.row z4 1 (bx ((g 0).1 1)),.row z4 1 (bx ((g 0).1 2)),.cells z5 [.msl 5 1 0 3,.msl 6 1 0 3,.msl 7 1 0 3],.row z4 1 (bx ((g 0).2 0)),.row z4 1 (bx ((g 0).2 1)),.row z4 1 (bx ((g 0).2 2))]⟩ True (q8 (q7 hT ?_)) (fun _=>?_)
    ·refine z6 ?_
     exact z9 ⟨q9 [0,1,2,3,4,5,6,7] [4,5,8,59,10,60,11] rfl,trivial⟩
    have hp:p=0∨p=1∨p=2:=by omega
    refine w6 (fun st=>∃ M1,M1=swp (g 0).1 0 p∧st=⟨⟨166,[(4,.p (.box F)),(5,.msl 0 1 0 3),(8,.msl 4 1 0 3),(59,i64 3),(10,i64 0),(60,i64 0),(11,i64 p)]⟩,[.cells z5 [.msl 1 1 0 3,.msl 2 1 0 3,.msl 3 1 0 3],.row z4 1 (bx (M1 0)),.row z4 1 (bx (M1 1)),.row z4 1 (bx (M1 2)),.cells z5 [.msl 5 1 0 3,.msl 6 1 0 3,.msl 7 1 0 3],.row z4 1 (bx ((g 0).2 0)),.row z4 1 (bx ((g 0).2 1)),.row z4 1 (bx ((g 0).2 2))]⟩) ?_ ?_
    ·rcases hp with rfl|rfl|rfl
     ·refine w9 [13,15] [] hT z8 (by rfl) ?_
      refine⟨by decide,?_⟩
      refine⟨by decide,?_⟩
      refine⟨by decide,?_⟩
      refine⟨by decide,?_⟩
      repeat first|refine⟨rfl,?_⟩|refine⟨⟨by decide,rfl⟩,?_⟩
      exact⟨_,q9 [0,1,2,3,4,5,6,7] [4,5,8,59,10,60,11] rfl,swp (g 0).1 0 0,rfl,rfl⟩
     ·refine w9 [13,15] [] hT z8 (by rfl) ?_
      refine⟨by decide,?_⟩
      refine⟨by decide,?_⟩
      refine⟨by decide,?_⟩
      refine⟨by decide,?_⟩
      repeat first|refine⟨rfl,?_⟩|refine⟨⟨by decide,rfl⟩,?_⟩
      exact⟨_,q9 [0,2,1,3,4,5,6,7] [4,5,8,59,10,60,11] rfl,swp (g 0).1 0 1,rfl,rfl⟩
     ·refine w9 [13,15] [] hT z8 (by rfl) ?_
      refine⟨by decide,?_⟩
      refine⟨by decide,?_⟩
      refine⟨by decide,?_⟩
      refine⟨by decide,?_⟩
      repeat first|refine⟨rfl,?_⟩|refine⟨⟨by decide,rfl⟩,?_⟩
      exact⟨_,q9 [0,3,2,1,4,5,6,7] [4,5,8,59,10,60,11] rfl,swp (g 0).1 0 2,rfl,rfl⟩
    rintro _ ⟨M1,hM1,rfl⟩
    refine w6 (fun st=>∃ N1,N1=swp (g 0).2 0 p∧st=⟨⟨166,[(4,.p (.box F)),(5,.msl 0 1 0 3),(8,.msl 4 1 0 3),(59,i64 3),(10,i64 0),(60,i64 0)]⟩,[.cells z5 [.msl 1 1 0 3,.msl 2 1 0 3,.msl 3 1 0 3],.row z4 1 (bx (M1 0)),.row z4 1 (bx (M1 1)),.row z4 1 (bx (M1 2)),.cells z5 [.msl 5 1 0 3,.msl 6 1 0 3,.msl 7 1 0 3],.row z4 1 (bx (N1 0)),.row z4 1 (bx (N1 1)),.row z4 1 (bx (N1 2))]⟩) ?_ ?_
    ·rcases hp with rfl|rfl|rfl
     ·refine w9 [13,15] [] hT z8 (by rfl) ?_
      refine⟨by decide,?_⟩
      refine⟨by decide,?_⟩
      refine⟨by decide,?_⟩
      refine⟨by decide,?_⟩
      repeat first|refine⟨rfl,?_⟩|refine⟨⟨by decide,rfl⟩,?_⟩
      exact⟨_,q9 [0,1,2,3,4,5,6,7] [4,5,8,59,10,60] rfl,swp (g 0).2 0 0,rfl,rfl⟩
     ·refine w9 [13,15] [] hT z8 (by rfl) ?_
      refine⟨by decide,?_⟩
      refine⟨by decide,?_⟩
      refine⟨by decide,?_⟩
      refine⟨by decide,?_⟩
      repeat first|refine⟨rfl,?_⟩|refine⟨⟨by decide,rfl⟩,?_⟩
      exact⟨_,q9 [0,1,2,3,4,6,5,7] [4,5,8,59,10,60] rfl,swp (g 0).2 0 1,rfl,rfl⟩
     ·refine w9 [13,15] [] hT z8 (by rfl) ?_
      refine⟨by decide,?_⟩
      refine⟨by decide,?_⟩
      refine⟨by decide,?_⟩
      refine⟨by decide,?_⟩
      repeat first|refine⟨rfl,?_⟩|refine⟨⟨by decide,rfl⟩,?_⟩
      exact⟨_,q9 [0,1,2,3,4,7,6,5] [4,5,8,59,10,60] rfl,swp (g 0).2 0 2,rfl,rfl⟩
    rintro _ ⟨N1,hN1,rfl⟩
    have hsw:J4 3 0 (g 0)=(M1,N1):=by unfold J4;rw[p1,Int.toNat_natCast,← hM1,← hN1]
    have lm:Y9 3 M1:=by rw[hM1];exact V5 l1 (by decide) p3
    have ln:Y9 3 N1:=by rw[hN1];exact V5 l2 (by decide) p3
    have hv0:(M1 0).getD 0 0≠0:=by rw[hM1];exact p4
    have hM1c:=lm 0 (by decide)
    have hN1c:=ln 0 (by decide)
    have hcc:=Z3 (l:=M1 0) (c:=0) (by rw[hM1c];decide)
    have htm:q2y 0 (M1,N1)=(Y0 M1 0 (V4 (Gf.inv ((M1 0).getD 0 0)) (M1 0)),Y0 N1 0 (V4 (Gf.inv ((M1 0).getD 0 0)) (N1 0))):=rfl
    have wi:=winv _ hv0
    generalize (M1 0).getD 0 0=v at hcc wi htm
    generalize Gf.inv v=by_ at wi htm
    have hcx:(bx (M1 0))[0+((0:Nat):Int).toNat]?=some [u8 v]:=Q7 hcc
    have w1:=wtm (M1 0) by_ hM1c
    have w2:=wtm (N1 0) by_ hN1c
    rw[hM1c]at w1
    rw[hN1c]at w2
    refine y8 ⟨⟨166,[(4,.p (.box F)),(5,.msl 0 1 0 3),(8,.msl 4 1 0 3),(59,i64 3),(10,i64 0),(60,i64 0),(12,.p (u8 by_))]⟩,[.cells z5 [.msl 1 1 0 3,.msl 2 1 0 3,.msl 3 1 0 3],.row z4 1 (bx (M1 0)),.row z4 1 (bx (M1 1)),.row z4 1 (bx (M1 2)),.cells z5 [.msl 5 1 0 3,.msl 6 1 0 3,.msl 7 1 0 3],.row z4 1 (bx (N1 0)),.row z4 1 (bx (N1 1)),.row z4 1 (bx (N1 2))]⟩ True (q7 hT ?_) (fun _=>?_)
    ·refine⟨by decide,?_⟩
     refine⟨⟨by decide,by decide⟩,?_⟩
     refine u7 hcx ?_
     refine x8 (u5 wi _ rfl rfl) ?_
     exact⟨q9 [0,1,2,3,4,5,6,7] [4,5,8,59,10,60,12] rfl,trivial⟩
    obtain⟨M2,hM2⟩:∃ M2,M2=Y0 M1 0 (V4 by_ (M1 0)):=⟨_,rfl⟩
    obtain⟨N2,hN2⟩:∃ N2,N2=Y0 N1 0 (V4 by_ (N1 0)):=⟨_,rfl⟩
    rw[← hM2,← hN2]at htm
    have lm2:Y9 3 M2:=by rw[hM2];exact X7 lm 0 (by rw[X4];exact hM1c)
    have ln2:Y9 3 N2:=by rw[hN2];exact X7 ln 0 (by rw[X4];exact hN1c)
    refine y8 ⟨⟨166,[(4,.p (.box F)),(5,.msl 0 1 0 3),(8,.msl 4 1 0 3),(59,i64 3),(10,i64 0),(60,i64 0),(12,.p (u8 by_))]⟩,[.cells z5 [.msl 1 1 0 3,.msl 2 1 0 3,.msl 3 1 0 3],.row z4 1 (bx (M2 0)),.row z4 1 (bx (M2 1)),.row z4 1 (bx (M2 2)),.cells z5 [.msl 5 1 0 3,.msl 6 1 0 3,.msl 7 1 0 3],.row z4 1 (bx (N1 0)),.row z4 1 (bx (N1 1)),.row z4 1 (bx (N1 2))]⟩ True (q7 hT ?_) (fun _=>?_)
    ·refine⟨by decide,?_⟩
     refine x8 (Q1 [1] w1 rfl rfl rfl) ?_
     rw[hM2]
     exact⟨q9 [0,1,2,3,4,5,6,7] [4,5,8,59,10,60,12] rfl,trivial⟩
    refine y8 ⟨⟨166,[(4,.p (.box F)),(5,.msl 0 1 0 3),(8,.msl 4 1 0 3),(59,i64 3),(10,i64 0),(60,i64 0)]⟩,[.cells z5 [.msl 1 1 0 3,.msl 2 1 0 3,.msl 3 1 0 3],.row z4 1 (bx (M2 0)),.row z4 1 (bx (M2 1)),.row z4 1 (bx (M2 2)),.cells z5 [.msl 5 1 0 3,.msl 6 1 0 3,.msl 7 1 0 3],.row z4 1 (bx (N2 0)),.row z4 1 (bx (N2 1)),.row z4 1 (bx (N2 2))]⟩ True (q7 hT ?_) (fun _=>?_)
    ·refine⟨by decide,?_⟩
     refine x8 (Q1 [5] w2 rfl rfl rfl) ?_
     rw[hN2]
     exact⟨q9 [0,1,2,3,4,5,6,7] [4,5,8,59,10,60] rfl,trivial⟩
    have hend:g 1=elS 0 (M2,N2) 3:=by rw[hs];unfold q1n;rw[hsw,htm]
    clear w1 w2 wi hM1 hN1 hM2 hN2 hsw htm hs lm ln hcc hcx hv0 hM1c hN1c
    refine q8 (q7 hT ?_)
    refine z7 ?_
    refine w7 (fun n s=>∃ (k:Nat) (j:Int) (M N:W8),n+k=3∧j=k∧elS 0 (M2,N2) k=(M,N)∧s=⟨⟨166,[(4,.p (.box F)),(5,.msl 0 1 0 3),(8,.msl 4 1 0 3),(59,i64 3),(10,i64 0),(60,i64 0),(122,.msl 0 1 0 3),(123,i64 3),(124,i64 j)]⟩,[.cells z5 [.msl 1 1 0 3,.msl 2 1 0 3,.msl 3 1 0 3],.row z4 1 (bx (M 0)),.row z4 1 (bx (M 1)),.row z4 1 (bx (M 2)),.cells z5 [.msl 5 1 0 3,.msl 6 1 0 3,.msl 7 1 0 3],.row z4 1 (bx (N 0)),.row z4 1 (bx (N 1)),.row z4 1 (bx (N 2))]⟩) 3 ⟨⟨166,_⟩,_⟩ (q9 [0,1,2,3,4,5,6,7] [4,5,8,59,10,60,122,123,124] rfl) ⟨0,0,M2,N2,rfl,rfl,rfl,rfl⟩ ?_
    rintro n2 s ⟨k,j,M,N,hnk,hj,hMN,rfl⟩
    have hlk:=q2j (r:=3) (c:=0) (by decide) (G:=(M2,N2)) lm2 ln2 k (by omega)
    rw[hMN]at hlk
    obtain⟨m1,m2⟩:=hlk
    have m1:Y9 3 M:=m1
    have m2:Y9 3 N:=m2
    have hsk:elS 0 (M2,N2) (k+1)=Y4 0 k (M,N):=by rw[elS,hMN]
    refine q8 (q7 hT ?_)
    refine q8 (z6 (x7 (fun h=>?_) (fun h=>?_)))
    ·have h:=of_decide_eq_true (show decide (j<((3:Nat):Int))=true from h)
     refine z9 ?_
     have hk4:k=0∨k=1∨k=2:=by omega
     subst hj
     refine w6 (fun st=>∃ M' N',elS 0 (M2,N2) (k+1)=(M',N')∧st=⟨⟨166,[(4,.p (.box F)),(5,.msl 0 1 0 3),(8,.msl 4 1 0 3),(59,i64 3),(10,i64 0),(60,i64 0),(122,.msl 0 1 0 3),(123,i64 3),(124,i64 k)]⟩,[.cells z5 [.msl 1 1 0 3,.msl 2 1 0 3,.msl 3 1 0 3],.row z4 1 (bx (M' 0)),.row z4 1 (bx (M' 1)),.row z4 1 (bx (M' 2)),.cells z5 [.msl 5 1 0 3,.msl 6 1 0 3,.msl 7 1 0 3],.row z4 1 (bx (N' 0)),.row z4 1 (bx (N' 1)),.row z4 1 (bx (N' 2))]⟩) (z7 ?_) ?_
     ·rcases hk4 with rfl|rfl|rfl
      ·have hg:=Z3 (l:=M 0) (c:=0) (by rw[m1 0 (by decide)];decide)
       have hcond:∀ x,(M 0).getD 0 0=x→Y4 0 0 (M,N)=match !Nat.beq 0 0&&x != 0 with|true=>(Y0 M 0 (Y7 (M 0) (M 0) x),Y0 N 0 (Y7 (N 0) (N 0) x))|false=>(M,N):=fun x hx=>by subst hx;rfl
       generalize hx:(M 0).getD 0 0=x at hg
       rw[hcond x hx]at hsk
       clear hcond hx
       have hgx:(bx (M 0))[0+((0:Nat):Int).toNat]?=some [u8 x]:=Q7 hg
       refine q8 (q7 hT ?_)
       refine q8 (q7 hT ?_)
       refine⟨by decide,?_⟩
       refine⟨⟨by decide,by decide⟩,?_⟩
       refine u7 hgx ?_
       refine q8 (q7 hT ?_)
       refine z6 ?_
       exact z9 ⟨_,q9 [0,1,2,3,4,5,6,7] [4,5,8,59,10,60,122,123,124] rfl,M,N,hsk,rfl⟩
      ·have hg:=Z3 (l:=M 1) (c:=0) (by rw[m1 1 (by decide)];decide)
       have hcond:∀ x,(M 1).getD 0 0=x→Y4 0 1 (M,N)=match !Nat.beq 1 0&&x != 0 with|true=>(Y0 M 1 (Y7 (M 1) (M 0) x),Y0 N 1 (Y7 (N 1) (N 0) x))|false=>(M,N):=fun x hx=>by subst hx;rfl
       generalize hx:(M 1).getD 0 0=x at hg
       rw[hcond x hx]at hsk
       clear hcond hx
       have hgx:(bx (M 1))[0+((0:Nat):Int).toNat]?=some [u8 x]:=Q7 hg
       refine q8 (q7 hT ?_)
       refine q8 (q7 hT ?_)
       refine⟨by decide,?_⟩
       refine⟨⟨by decide,by decide⟩,?_⟩
       refine u7 hgx ?_
       refine q8 (q7 hT ?_)
       refine z6 (x7 (fun h=>?_) (fun h=>?_))
       ·have h:(((x.toNat:Nat):Int) != 0)=true:=h
        rw[bne_iff_ne]at h
        have hne:x≠0:=fun e=>h (by rw[e];rfl)
        rw[bne_iff_ne.mpr hne]at hsk
        have w1:=wad (M 1) (M 0) x (m1 1 (by decide)) (m1 0 (by decide))
        have w2:=wad (N 1) (N 0) x (m2 1 (by decide)) (m2 0 (by decide))
        rw[m1 1 (by decide)]at w1
        rw[m2 1 (by decide)]at w2
        refine q8 ?_
        refine w9 [10] [] hT z8 (by rfl) ?_
        refine⟨by decide,?_⟩
        refine⟨by decide,?_⟩
        refine⟨_,_,Q1 [2,1] w1 rfl rfl rfl,?_⟩
        repeat first|refine⟨rfl,?_⟩|refine⟨⟨by decide,rfl⟩,?_⟩
        refine w9 [10] [] hT z8 (by rfl) ?_
        refine⟨by decide,?_⟩
        refine⟨by decide,?_⟩
        refine⟨_,_,Q1 [6,5] w2 rfl rfl rfl,?_⟩
        repeat first|refine⟨rfl,?_⟩|refine⟨⟨by decide,rfl⟩,?_⟩
        exact⟨_,q9 [0,1,2,3,4,5,6,7] [4,5,8,59,10,60,122,123,124] rfl,_,_,hsk,rfl⟩
       ·have h:(((x.toNat:Nat):Int) != 0)=false:=h
        rw[bne_eq_false_iff_eq]at h
        have hx0:x=0:=UInt8.toNat_inj.mp (by show x.toNat=0;omega)
        rw[hx0]at hsk
        exact z9 ⟨_,q9 [0,1,2,3,4,5,6,7] [4,5,8,59,10,60,122,123,124] rfl,M,N,hsk,rfl⟩
      ·have hg:=Z3 (l:=M 2) (c:=0) (by rw[m1 2 (by decide)];decide)
       have hcond:∀ x,(M 2).getD 0 0=x→Y4 0 2 (M,N)=match !Nat.beq 2 0&&x != 0 with|true=>(Y0 M 2 (Y7 (M 2) (M 0) x),Y0 N 2 (Y7 (N 2) (N 0) x))|false=>(M,N):=fun x hx=>by subst hx;rfl
       generalize hx:(M 2).getD 0 0=x at hg
       rw[hcond x hx]at hsk
       clear hcond hx
       have hgx:(bx (M 2))[0+((0:Nat):Int).toNat]?=some [u8 x]:=Q7 hg
       refine q8 (q7 hT ?_)
       refine q8 (q7 hT ?_)
       refine⟨by decide,?_⟩
       refine⟨⟨by decide,by decide⟩,?_⟩
       refine u7 hgx ?_
       refine q8 (q7 hT ?_)
       refine z6 (x7 (fun h=>?_) (fun h=>?_))
       ·have h:(((x.toNat:Nat):Int) != 0)=true:=h
        rw[bne_iff_ne]at h
        have hne:x≠0:=fun e=>h (by rw[e];rfl)
        rw[bne_iff_ne.mpr hne]at hsk
        have w1:=wad (M 2) (M 0) x (m1 2 (by decide)) (m1 0 (by decide))
        have w2:=wad (N 2) (N 0) x (m2 2 (by decide)) (m2 0 (by decide))
        rw[m1 2 (by decide)]at w1
        rw[m2 2 (by decide)]at w2
        refine q8 ?_
        refine w9 [10] [] hT z8 (by rfl) ?_
        refine⟨by decide,?_⟩
        refine⟨by decide,?_⟩
        refine⟨_,_,Q1 [3,1] w1 rfl rfl rfl,?_⟩
        repeat first|refine⟨rfl,?_⟩|refine⟨⟨by decide,rfl⟩,?_⟩
        refine w9 [10] [] hT z8 (by rfl) ?_
        refine⟨by decide,?_⟩
        refine⟨by decide,?_⟩
        refine⟨_,_,Q1 [7,5] w2 rfl rfl rfl,?_⟩
        repeat first|refine⟨rfl,?_⟩|refine⟨⟨by decide,rfl⟩,?_⟩
        exact⟨_,q9 [0,1,2,3,4,5,6,7] [4,5,8,59,10,60,122,123,124] rfl,_,_,hsk,rfl⟩
       ·have h:(((x.toNat:Nat):Int) != 0)=false:=h
        rw[bne_eq_false_iff_eq]at h
        have hx0:x=0:=UInt8.toNat_inj.mp (by show x.toNat=0;omega)
        rw[hx0]at hsk
        exact z9 ⟨_,q9 [0,1,2,3,4,5,6,7] [4,5,8,59,10,60,122,123,124] rfl,M,N,hsk,rfl⟩
     ·rintro _ ⟨M',N',hMN',rfl⟩
      refine q7 hT ?_
      exact⟨n2 - 1,by omega,_,q9 [0,1,2,3,4,5,6,7] [4,5,8,59,10,60,122,123,124] rfl,k+1,IntKind.i64.wrap ((k:Int)+1),M',N',by omega,by rw[x9 _ (by omega) (by omega)];rfl,hMN',rfl⟩
    ·have h:=of_decide_eq_false (show decide (j<((3:Nat):Int))=false from h)
     have hkr:k=3:=by omega
     rw[hkr,← hend]at hMN
     rw[hMN]
     refine u0 ?_
     exact⟨q9 [0,1,2,3,4,5,6,7] [4,5,8,59,60] rfl,trivial⟩
   ·refine q7 hT ?_
    exact⟨2,by decide,_,q9 [0,1,2,3,4,5,6,7] [4,5,8,59,60] rfl,(.inr (.inl ⟨rfl,rfl⟩))⟩
  ·refine q8 (q7 hT ?_)
   refine q8 (z6 ?_)
   refine z9 ?_
   obtain⟨p,p1,p2,p3,p4⟩:=hpiv 1 (by decide)
   obtain⟨l1,l2⟩:=hlen 1 (by decide)
   have hs:=hstep 1
   have wp:=z5f (g 1).1 l1 1 (by decide)
   rw[p1]at wp
   refine y8 ⟨⟨166,[(4,.p (.box F)),(5,.msl 0 1 0 3),(8,.msl 4 1 0 3),(59,i64 3),(60,i64 1)]⟩,[.cells z5 [.msl 1 1 0 3,.msl 2 1 0 3,.msl 3 1 0 3],.row z4 1 (bx ((g 2).1 0)),.row z4 1 (bx ((g 2).1 1)),.row z4 1 (bx ((g 2).1 2)),.cells z5 [.msl 5 1 0 3,.msl 6 1 0 3,.msl 7 1 0 3],.row z4 1 (bx ((g 2).2 0)),.row z4 1 (bx ((g 2).2 1)),.row z4 1 (bx ((g 2).2 2))]⟩ True (z7 ?_) (fun _=>?_)
   ·refine q8 (q7 hT ?_)
    refine y8 ⟨⟨166,[(4,.p (.box F)),(5,.msl 0 1 0 3),(8,.msl 4 1 0 3),(59,i64 3),(10,i64 1),(60,i64 1),(11,i64 p)]⟩,[.cells z5 [.msl 1 1 0 3,.msl 2 1 0 3,.msl 3 1 0 3],.row z4 1 (bx ((g 1).1 0)),.row z4 1 (bx ((g 1).1 1)),.row z4 1 (bx ((g 1).1 2)),.cells z5 [.msl 5 1 0 3,.msl 6 1 0 3,.msl 7 1 0 3],.row z4 1 (bx ((g 1).2 0)),.row z4 1 (bx ((g 1).2 1)),.row z4 1 (bx ((g 1).2 2))]⟩ True (q7 hT ?_) (fun _=>?_)
    ·refine x8 (Q1 [0,1,2,3] wp rfl rfl rfl) ?_
     exact⟨q9 [0,1,2,3,4,5,6,7] [4,5,8,59,10,60,11] rfl,trivial⟩
    refine y8 ⟨⟨166,[(4,.p (.box F)),(5,.msl 0 1 0 3),(8,.msl 4 1 0 3),(59,i64 3),(10,i64 1),(60,i64 1),(11,i64 p)]⟩,[.cells z5 [.msl 1 1 0 3,.msl 2 1 0 3,.msl 3 1 0 3],.row z4 1 (bx ((g 1).1 0)),.row z4 1 (bx ((g 1).1 1)),.row z4 1 (bx ((g 1).1 2)),.cells z5 [.msl 5 1 0 3,.msl 6 1 0 3,.msl 7 1 0 3],.row z4 1 (bx ((g 1).2 0)),.row z4 1 (bx ((g 1).2 1)),.row z4 1 (bx ((g 1).2 2))]⟩ True (q8 (q7 hT ?_)) (fun _=>?_)
    ·refine z6 ?_
     exact z9 ⟨q9 [0,1,2,3,4,5,6,7] [4,5,8,59,10,60,11] rfl,trivial⟩
    have hp:p=1∨p=2:=by omega
    refine w6 (fun st=>∃ M1,M1=swp (g 1).1 1 p∧st=⟨⟨166,[(4,.p (.box F)),(5,.msl 0 1 0 3),(8,.msl 4 1 0 3),(59,i64 3),(10,i64 1),(60,i64 1),(11,i64 p)]⟩,[.cells z5 [.msl 1 1 0 3,.msl 2 1 0 3,.msl 3 1 0 3],.row z4 1 (bx (M1 0)),.row z4 1 (bx (M1 1)),.row z4 1 (bx (M1 2)),.cells z5 [.msl 5 1 0 3,.msl 6 1 0 3,.msl 7 1 0 3],.row z4 1 (bx ((g 1).2 0)),.row z4 1 (bx ((g 1).2 1)),.row z4 1 (bx ((g 1).2 2))]⟩) ?_ ?_
    ·rcases hp with rfl|rfl
     ·refine w9 [13,15] [] hT z8 (by rfl) ?_
      refine⟨by decide,?_⟩
      refine⟨by decide,?_⟩
      refine⟨by decide,?_⟩
      refine⟨by decide,?_⟩
      repeat first|refine⟨rfl,?_⟩|refine⟨⟨by decide,rfl⟩,?_⟩
      exact⟨_,q9 [0,1,2,3,4,5,6,7] [4,5,8,59,10,60,11] rfl,swp (g 1).1 1 1,rfl,rfl⟩
     ·refine w9 [13,15] [] hT z8 (by rfl) ?_
      refine⟨by decide,?_⟩
      refine⟨by decide,?_⟩
      refine⟨by decide,?_⟩
      refine⟨by decide,?_⟩
      repeat first|refine⟨rfl,?_⟩|refine⟨⟨by decide,rfl⟩,?_⟩
      exact⟨_,q9 [0,1,3,2,4,5,6,7] [4,5,8,59,10,60,11] rfl,swp (g 1).1 1 2,rfl,rfl⟩
    rintro _ ⟨M1,hM1,rfl⟩
    refine w6 (fun st=>∃ N1,N1=swp (g 1).2 1 p∧st=⟨⟨166,[(4,.p (.box F)),(5,.msl 0 1 0 3),(8,.msl 4 1 0 3),(59,i64 3),(10,i64 1),(60,i64 1)]⟩,[.cells z5 [.msl 1 1 0 3,.msl 2 1 0 3,.msl 3 1 0 3],.row z4 1 (bx (M1 0)),.row z4 1 (bx (M1 1)),.row z4 1 (bx (M1 2)),.cells z5 [.msl 5 1 0 3,.msl 6 1 0 3,.msl 7 1 0 3],.row z4 1 (bx (N1 0)),.row z4 1 (bx (N1 1)),.row z4 1 (bx (N1 2))]⟩) ?_ ?_
    ·rcases hp with rfl|rfl
     ·refine w9 [13,15] [] hT z8 (by rfl) ?_
      refine⟨by decide,?_⟩
      refine⟨by decide,?_⟩
      refine⟨by decide,?_⟩
      refine⟨by decide,?_⟩
      repeat first|refine⟨rfl,?_⟩|refine⟨⟨by decide,rfl⟩,?_⟩
      exact⟨_,q9 [0,1,2,3,4,5,6,7] [4,5,8,59,10,60] rfl,swp (g 1).2 1 1,rfl,rfl⟩
     ·refine w9 [13,15] [] hT z8 (by rfl) ?_
      refine⟨by decide,?_⟩
      refine⟨by decide,?_⟩
      refine⟨by decide,?_⟩
      refine⟨by decide,?_⟩
      repeat first|refine⟨rfl,?_⟩|refine⟨⟨by decide,rfl⟩,?_⟩
      exact⟨_,q9 [0,1,2,3,4,5,7,6] [4,5,8,59,10,60] rfl,swp (g 1).2 1 2,rfl,rfl⟩
    rintro _ ⟨N1,hN1,rfl⟩
    have hsw:J4 3 1 (g 1)=(M1,N1):=by unfold J4;rw[p1,Int.toNat_natCast,← hM1,← hN1]
    have lm:Y9 3 M1:=by rw[hM1];exact V5 l1 (by decide) p3
    have ln:Y9 3 N1:=by rw[hN1];exact V5 l2 (by decide) p3
    have hv0:(M1 1).getD 1 0≠0:=by rw[hM1];exact p4
    have hM1c:=lm 1 (by decide)
    have hN1c:=ln 1 (by decide)
    have hcc:=Z3 (l:=M1 1) (c:=1) (by rw[hM1c];decide)
    have htm:q2y 1 (M1,N1)=(Y0 M1 1 (V4 (Gf.inv ((M1 1).getD 1 0)) (M1 1)),Y0 N1 1 (V4 (Gf.inv ((M1 1).getD 1 0)) (N1 1))):=rfl
    have wi:=winv _ hv0
    generalize (M1 1).getD 1 0=v at hcc wi htm
    generalize Gf.inv v=by_ at wi htm
    have hcx:(bx (M1 1))[0+((1:Nat):Int).toNat]?=some [u8 v]:=Q7 hcc
    have w1:=wtm (M1 1) by_ hM1c
    have w2:=wtm (N1 1) by_ hN1c
    rw[hM1c]at w1
    rw[hN1c]at w2
    refine y8 ⟨⟨166,[(4,.p (.box F)),(5,.msl 0 1 0 3),(8,.msl 4 1 0 3),(59,i64 3),(10,i64 1),(60,i64 1),(12,.p (u8 by_))]⟩,[.cells z5 [.msl 1 1 0 3,.msl 2 1 0 3,.msl 3 1 0 3],.row z4 1 (bx (M1 0)),.row z4 1 (bx (M1 1)),.row z4 1 (bx (M1 2)),.cells z5 [.msl 5 1 0 3,.msl 6 1 0 3,.msl 7 1 0 3],.row z4 1 (bx (N1 0)),.row z4 1 (bx (N1 1)),.row z4 1 (bx (N1 2))]⟩ True (q7 hT ?_) (fun _=>?_)
    ·refine⟨by decide,?_⟩
     refine⟨⟨by decide,by decide⟩,?_⟩
     refine u7 hcx ?_
     refine x8 (u5 wi _ rfl rfl) ?_
     exact⟨q9 [0,1,2,3,4,5,6,7] [4,5,8,59,10,60,12] rfl,trivial⟩
    obtain⟨M2,hM2⟩:∃ M2,M2=Y0 M1 1 (V4 by_ (M1 1)):=⟨_,rfl⟩
    obtain⟨N2,hN2⟩:∃ N2,N2=Y0 N1 1 (V4 by_ (N1 1)):=⟨_,rfl⟩
    rw[← hM2,← hN2]at htm
    have lm2:Y9 3 M2:=by rw[hM2];exact X7 lm 1 (by rw[X4];exact hM1c)
    have ln2:Y9 3 N2:=by rw[hN2];exact X7 ln 1 (by rw[X4];exact hN1c)
    refine y8 ⟨⟨166,[(4,.p (.box F)),(5,.msl 0 1 0 3),(8,.msl 4 1 0 3),(59,i64 3),(10,i64 1),(60,i64 1),(12,.p (u8 by_))]⟩,[.cells z5 [.msl 1 1 0 3,.msl 2 1 0 3,.msl 3 1 0 3],.row z4 1 (bx (M2 0)),.row z4 1 (bx (M2 1)),.row z4 1 (bx (M2 2)),.cells z5 [.msl 5 1 0 3,.msl 6 1 0 3,.msl 7 1 0 3],.row z4 1 (bx (N1 0)),.row z4 1 (bx (N1 1)),.row z4 1 (bx (N1 2))]⟩ True (q7 hT ?_) (fun _=>?_)
    ·refine⟨by decide,?_⟩
     refine x8 (Q1 [2] w1 rfl rfl rfl) ?_
     rw[hM2]
     exact⟨q9 [0,1,2,3,4,5,6,7] [4,5,8,59,10,60,12] rfl,trivial⟩
    refine y8 ⟨⟨166,[(4,.p (.box F)),(5,.msl 0 1 0 3),(8,.msl 4 1 0 3),(59,i64 3),(10,i64 1),(60,i64 1)]⟩,[.cells z5 [.msl 1 1 0 3,.msl 2 1 0 3,.msl 3 1 0 3],.row z4 1 (bx (M2 0)),.row z4 1 (bx (M2 1)),.row z4 1 (bx (M2 2)),.cells z5 [.msl 5 1 0 3,.msl 6 1 0 3,.msl 7 1 0 3],.row z4 1 (bx (N2 0)),.row z4 1 (bx (N2 1)),.row z4 1 (bx (N2 2))]⟩ True (q7 hT ?_) (fun _=>?_)
    ·refine⟨by decide,?_⟩
     refine x8 (Q1 [6] w2 rfl rfl rfl) ?_
     rw[hN2]
     exact⟨q9 [0,1,2,3,4,5,6,7] [4,5,8,59,10,60] rfl,trivial⟩
    have hend:g 2=elS 1 (M2,N2) 3:=by rw[hs];unfold q1n;rw[hsw,htm]
    clear w1 w2 wi hM1 hN1 hM2 hN2 hsw htm hs lm ln hcc hcx hv0 hM1c hN1c
    refine q8 (q7 hT ?_)
    refine z7 ?_
    refine w7 (fun n s=>∃ (k:Nat) (j:Int) (M N:W8),n+k=3∧j=k∧elS 1 (M2,N2) k=(M,N)∧s=⟨⟨166,[(4,.p (.box F)),(5,.msl 0 1 0 3),(8,.msl 4 1 0 3),(59,i64 3),(10,i64 1),(60,i64 1),(122,.msl 0 1 0 3),(123,i64 3),(124,i64 j)]⟩,[.cells z5 [.msl 1 1 0 3,.msl 2 1 0 3,.msl 3 1 0 3],.row z4 1 (bx (M 0)),.row z4 1 (bx (M 1)),.row z4 1 (bx (M 2)),.cells z5 [.msl 5 1 0 3,.msl 6 1 0 3,.msl 7 1 0 3],.row z4 1 (bx (N 0)),.row z4 1 (bx (N 1)),.row z4 1 (bx (N 2))]⟩) 3 ⟨⟨166,_⟩,_⟩ (q9 [0,1,2,3,4,5,6,7] [4,5,8,59,10,60,122,123,124] rfl) ⟨0,0,M2,N2,rfl,rfl,rfl,rfl⟩ ?_
    rintro n2 s ⟨k,j,M,N,hnk,hj,hMN,rfl⟩
    have hlk:=q2j (r:=3) (c:=1) (by decide) (G:=(M2,N2)) lm2 ln2 k (by omega)
    rw[hMN]at hlk
    obtain⟨m1,m2⟩:=hlk
    have m1:Y9 3 M:=m1
    have m2:Y9 3 N:=m2
    have hsk:elS 1 (M2,N2) (k+1)=Y4 1 k (M,N):=by rw[elS,hMN]
    refine q8 (q7 hT ?_)
    refine q8 (z6 (x7 (fun h=>?_) (fun h=>?_)))
    ·have h:=of_decide_eq_true (show decide (j<((3:Nat):Int))=true from h)
     refine z9 ?_
     have hk4:k=0∨k=1∨k=2:=by omega
     subst hj
     refine w6 (fun st=>∃ M' N',elS 1 (M2,N2) (k+1)=(M',N')∧st=⟨⟨166,[(4,.p (.box F)),(5,.msl 0 1 0 3),(8,.msl 4 1 0 3),(59,i64 3),(10,i64 1),(60,i64 1),(122,.msl 0 1 0 3),(123,i64 3),(124,i64 k)]⟩,[.cells z5 [.msl 1 1 0 3,.msl 2 1 0 3,.msl 3 1 0 3],.row z4 1 (bx (M' 0)),.row z4 1 (bx (M' 1)),.row z4 1 (bx (M' 2)),.cells z5 [.msl 5 1 0 3,.msl 6 1 0 3,.msl 7 1 0 3],.row z4 1 (bx (N' 0)),.row z4 1 (bx (N' 1)),.row z4 1 (bx (N' 2))]⟩) (z7 ?_) ?_
     ·rcases hk4 with rfl|rfl|rfl
      ·have hg:=Z3 (l:=M 0) (c:=1) (by rw[m1 0 (by decide)];decide)
       have hcond:∀ x,(M 0).getD 1 0=x→Y4 1 0 (M,N)=match !Nat.beq 0 1&&x != 0 with|true=>(Y0 M 0 (Y7 (M 0) (M 1) x),Y0 N 0 (Y7 (N 0) (N 1) x))|false=>(M,N):=fun x hx=>by subst hx;rfl
       generalize hx:(M 0).getD 1 0=x at hg
       rw[hcond x hx]at hsk
       clear hcond hx
       have hgx:(bx (M 0))[0+((1:Nat):Int).toNat]?=some [u8 x]:=Q7 hg
       refine q8 (q7 hT ?_)
       refine q8 (q7 hT ?_)
       refine⟨by decide,?_⟩
       refine⟨⟨by decide,by decide⟩,?_⟩
       refine u7 hgx ?_
       refine q8 (q7 hT ?_)
       refine z6 (x7 (fun h=>?_) (fun h=>?_))
       ·have h:(((x.toNat:Nat):Int) != 0)=true:=h
        rw[bne_iff_ne]at h
        have hne:x≠0:=fun e=>h (by rw[e];rfl)
        rw[bne_iff_ne.mpr hne]at hsk
        have w1:=wad (M 0) (M 1) x (m1 0 (by decide)) (m1 1 (by decide))
        have w2:=wad (N 0) (N 1) x (m2 0 (by decide)) (m2 1 (by decide))
        rw[m1 0 (by decide)]at w1
        rw[m2 0 (by decide)]at w2
        refine q8 ?_
        refine w9 [10] [] hT z8 (by rfl) ?_
        refine⟨by decide,?_⟩
        refine⟨by decide,?_⟩
        refine⟨_,_,Q1 [1,2] w1 rfl rfl rfl,?_⟩
        repeat first|refine⟨rfl,?_⟩|refine⟨⟨by decide,rfl⟩,?_⟩
        refine w9 [10] [] hT z8 (by rfl) ?_
        refine⟨by decide,?_⟩
        refine⟨by decide,?_⟩
        refine⟨_,_,Q1 [5,6] w2 rfl rfl rfl,?_⟩
        repeat first|refine⟨rfl,?_⟩|refine⟨⟨by decide,rfl⟩,?_⟩
        exact⟨_,q9 [0,1,2,3,4,5,6,7] [4,5,8,59,10,60,122,123,124] rfl,_,_,hsk,rfl⟩
       ·have h:(((x.toNat:Nat):Int) != 0)=false:=h
        rw[bne_eq_false_iff_eq]at h
        have hx0:x=0:=UInt8.toNat_inj.mp (by show x.toNat=0;omega)
        rw[hx0]at hsk
        exact z9 ⟨_,q9 [0,1,2,3,4,5,6,7] [4,5,8,59,10,60,122,123,124] rfl,M,N,hsk,rfl⟩
      ·have hg:=Z3 (l:=M 1) (c:=1) (by rw[m1 1 (by decide)];decide)
       have hcond:∀ x,(M 1).getD 1 0=x→Y4 1 1 (M,N)=match !Nat.beq 1 1&&x != 0 with|true=>(Y0 M 1 (Y7 (M 1) (M 1) x),Y0 N 1 (Y7 (N 1) (N 1) x))|false=>(M,N):=fun x hx=>by subst hx;rfl
       generalize hx:(M 1).getD 1 0=x at hg
       rw[hcond x hx]at hsk
       clear hcond hx
       have hgx:(bx (M 1))[0+((1:Nat):Int).toNat]?=some [u8 x]:=Q7 hg
       refine q8 (q7 hT ?_)
       refine q8 (q7 hT ?_)
       refine⟨by decide,?_⟩
       refine⟨⟨by decide,by decide⟩,?_⟩
       refine u7 hgx ?_
       refine q8 (q7 hT ?_)
       refine z6 ?_
       exact z9 ⟨_,q9 [0,1,2,3,4,5,6,7] [4,5,8,59,10,60,122,123,124] rfl,M,N,hsk,rfl⟩
      ·have hg:=Z3 (l:=M 2) (c:=1) (by rw[m1 2 (by decide)];decide)
       have hcond:∀ x,(M 2).getD 1 0=x→Y4 1 2 (M,N)=match !Nat.beq 2 1&&x != 0 with|true=>(Y0 M 2 (Y7 (M 2) (M 1) x),Y0 N 2 (Y7 (N 2) (N 1) x))|false=>(M,N):=fun x hx=>by subst hx;rfl
       generalize hx:(M 2).getD 1 0=x at hg
       rw[hcond x hx]at hsk
       clear hcond hx
       have hgx:(bx (M 2))[0+((1:Nat):Int).toNat]?=some [u8 x]:=Q7 hg
       refine q8 (q7 hT ?_)
       refine q8 (q7 hT ?_)
       refine⟨by decide,?_⟩
       refine⟨⟨by decide,by decide⟩,?_⟩
       refine u7 hgx ?_
       refine q8 (q7 hT ?_)
       refine z6 (x7 (fun h=>?_) (fun h=>?_))
       ·have h:(((x.toNat:Nat):Int) != 0)=true:=h
        rw[bne_iff_ne]at h
        have hne:x≠0:=fun e=>h (by rw[e];rfl)
        rw[bne_iff_ne.mpr hne]at hsk
        have w1:=wad (M 2) (M 1) x (m1 2 (by decide)) (m1 1 (by decide))
        have w2:=wad (N 2) (N 1) x (m2 2 (by decide)) (m2 1 (by decide))
        rw[m1 2 (by decide)]at w1
        rw[m2 2 (by decide)]at w2
        refine q8 ?_
        refine w9 [10] [] hT z8 (by rfl) ?_
        refine⟨by decide,?_⟩
        refine⟨by decide,?_⟩
        refine⟨_,_,Q1 [3,2] w1 rfl rfl rfl,?_⟩
        repeat first|refine⟨rfl,?_⟩|refine⟨⟨by decide,rfl⟩,?_⟩
        refine w9 [10] [] hT z8 (by rfl) ?_
        refine⟨by decide,?_⟩
        refine⟨by decide,?_⟩
        refine⟨_,_,Q1 [7,6] w2 rfl rfl rfl,?_⟩
        repeat first|refine⟨rfl,?_⟩|refine⟨⟨by decide,rfl⟩,?_⟩
        exact⟨_,q9 [0,1,2,3,4,5,6,7] [4,5,8,59,10,60,122,123,124] rfl,_,_,hsk,rfl⟩
       ·have h:(((x.toNat:Nat):Int) != 0)=false:=h
        rw[bne_eq_false_iff_eq]at h
        have hx0:x=0:=UInt8.toNat_inj.mp (by show x.toNat=0;omega)
        rw[hx0]at hsk
        exact z9 ⟨_,q9 [0,1,2,3,4,5,6,7] [4,5,8,59,10,60,122,123,124] rfl,M,N,hsk,rfl⟩
     ·rintro _ ⟨M',N',hMN',rfl⟩
      refine q7 hT ?_
      exact⟨n2 - 1,by omega,_,q9 [0,1,2,3,4,5,6,7] [4,5,8,59,10,60,122,123,124] rfl,k+1,IntKind.i64.wrap ((k:Int)+1),M',N',by omega,by rw[x9 _ (by omega) (by omega)];rfl,hMN',rfl⟩
    ·have h:=of_decide_eq_false (show decide (j<((3:Nat):Int))=false from h)
     have hkr:k=3:=by omega
     rw[hkr,← hend]at hMN
     rw[hMN]
     refine u0 ?_
     exact⟨q9 [0,1,2,3,4,5,6,7] [4,5,8,59,60] rfl,trivial⟩
   ·refine q7 hT ?_
    exact⟨1,by decide,_,q9 [0,1,2,3,4,5,6,7] [4,5,8,59,60] rfl,(.inr (.inr (.inl ⟨rfl,rfl⟩)))⟩
  ·refine q8 (q7 hT ?_)
   refine q8 (z6 ?_)
   refine z9 ?_
   obtain⟨p,p1,p2,p3,p4⟩:=hpiv 2 (by decide)
   obtain⟨l1,l2⟩:=hlen 2 (by decide)
   have hs:=hstep 2
   have wp:=z5f (g 2).1 l1 2 (by decide)
   rw[p1]at wp
   refine y8 ⟨⟨166,[(4,.p (.box F)),(5,.msl 0 1 0 3),(8,.msl 4 1 0 3),(59,i64 3),(60,i64 2)]⟩,[.cells z5 [.msl 1 1 0 3,.msl 2 1 0 3,.msl 3 1 0 3],.row z4 1 (bx ((g 3).1 0)),.row z4 1 (bx ((g 3).1 1)),.row z4 1 (bx ((g 3).1 2)),.cells z5 [.msl 5 1 0 3,.msl 6 1 0 3,.msl 7 1 0 3],.row z4 1 (bx ((g 3).2 0)),.row z4 1 (bx ((g 3).2 1)),.row z4 1 (bx ((g 3).2 2))]⟩ True (z7 ?_) (fun _=>?_)
   ·refine q8 (q7 hT ?_)
    refine y8 ⟨⟨166,[(4,.p (.box F)),(5,.msl 0 1 0 3),(8,.msl 4 1 0 3),(59,i64 3),(10,i64 2),(60,i64 2),(11,i64 p)]⟩,[.cells z5 [.msl 1 1 0 3,.msl 2 1 0 3,.msl 3 1 0 3],.row z4 1 (bx ((g 2).1 0)),.row z4 1 (bx ((g 2).1 1)),.row z4 1 (bx ((g 2).1 2)),.cells z5 [.msl 5 1 0 3,.msl 6 1 0 3,.msl 7 1 0 3],.row z4 1 (bx ((g 2).2 0)),.row z4 1 (bx ((g 2).2 1)),.row z4 1 (bx ((g 2).2 2))]⟩ True (q7 hT ?_) (fun _=>?_)
    ·refine x8 (Q1 [0,1,2,3] wp rfl rfl rfl) ?_
     exact⟨q9 [0,1,2,3,4,5,6,7] [4,5,8,59,10,60,11] rfl,trivial⟩
    refine y8 ⟨⟨166,[(4,.p (.box F)),(5,.msl 0 1 0 3),(8,.msl 4 1 0 3),(59,i64 3),(10,i64 2),(60,i64 2),(11,i64 p)]⟩,[.cells z5 [.msl 1 1 0 3,.msl 2 1 0 3,.msl 3 1 0 3],.row z4 1 (bx ((g 2).1 0)),.row z4 1 (bx ((g 2).1 1)),.row z4 1 (bx ((g 2).1 2)),.cells z5 [.msl 5 1 0 3,.msl 6 1 0 3,.msl 7 1 0 3],.row z4 1 (bx ((g 2).2 0)),.row z4 1 (bx ((g 2).2 1)),.row z4 1 (bx ((g 2).2 2))]⟩ True (q8 (q7 hT ?_)) (fun _=>?_)
    ·refine z6 ?_
     exact z9 ⟨q9 [0,1,2,3,4,5,6,7] [4,5,8,59,10,60,11] rfl,trivial⟩
    have hp:p=2:=by omega
    refine w6 (fun st=>∃ M1,M1=swp (g 2).1 2 p∧st=⟨⟨166,[(4,.p (.box F)),(5,.msl 0 1 0 3),(8,.msl 4 1 0 3),(59,i64 3),(10,i64 2),(60,i64 2),(11,i64 p)]⟩,[.cells z5 [.msl 1 1 0 3,.msl 2 1 0 3,.msl 3 1 0 3],.row z4 1 (bx (M1 0)),.row z4 1 (bx (M1 1)),.row z4 1 (bx (M1 2)),.cells z5 [.msl 5 1 0 3,.msl 6 1 0 3,.msl 7 1 0 3],.row z4 1 (bx ((g 2).2 0)),.row z4 1 (bx ((g 2).2 1)),.row z4 1 (bx ((g 2).2 2))]⟩) ?_ ?_
    ·rcases hp with rfl
     ·refine w9 [13,15] [] hT z8 (by rfl) ?_
      refine⟨by decide,?_⟩
      refine⟨by decide,?_⟩
      refine⟨by decide,?_⟩
      refine⟨by decide,?_⟩
      repeat first|refine⟨rfl,?_⟩|refine⟨⟨by decide,rfl⟩,?_⟩
      exact⟨_,q9 [0,1,2,3,4,5,6,7] [4,5,8,59,10,60,11] rfl,swp (g 2).1 2 2,rfl,rfl⟩
    rintro _ ⟨M1,hM1,rfl⟩
    refine w6 (fun st=>∃ N1,N1=swp (g 2).2 2 p∧st=⟨⟨166,[(4,.p (.box F)),(5,.msl 0 1 0 3),(8,.msl 4 1 0 3),(59,i64 3),(10,i64 2),(60,i64 2)]⟩,[.cells z5 [.msl 1 1 0 3,.msl 2 1 0 3,.msl 3 1 0 3],.row z4 1 (bx (M1 0)),.row z4 1 (bx (M1 1)),.row z4 1 (bx (M1 2)),.cells z5 [.msl 5 1 0 3,.msl 6 1 0 3,.msl 7 1 0 3],.row z4 1 (bx (N1 0)),.row z4 1 (bx (N1 1)),.row z4 1 (bx (N1 2))]⟩) ?_ ?_
    ·rcases hp with rfl
     ·refine w9 [13,15] [] hT z8 (by rfl) ?_
      refine⟨by decide,?_⟩
      refine⟨by decide,?_⟩
      refine⟨by decide,?_⟩
      refine⟨by decide,?_⟩
      repeat first|refine⟨rfl,?_⟩|refine⟨⟨by decide,rfl⟩,?_⟩
      exact⟨_,q9 [0,1,2,3,4,5,6,7] [4,5,8,59,10,60] rfl,swp (g 2).2 2 2,rfl,rfl⟩
    rintro _ ⟨N1,hN1,rfl⟩
    have hsw:J4 3 2 (g 2)=(M1,N1):=by unfold J4;rw[p1,Int.toNat_natCast,← hM1,← hN1]
    have lm:Y9 3 M1:=by rw[hM1];exact V5 l1 (by decide) p3
    have ln:Y9 3 N1:=by rw[hN1];exact V5 l2 (by decide) p3
    have hv0:(M1 2).getD 2 0≠0:=by rw[hM1];exact p4
    have hM1c:=lm 2 (by decide)
    have hN1c:=ln 2 (by decide)
    have hcc:=Z3 (l:=M1 2) (c:=2) (by rw[hM1c];decide)
    have htm:q2y 2 (M1,N1)=(Y0 M1 2 (V4 (Gf.inv ((M1 2).getD 2 0)) (M1 2)),Y0 N1 2 (V4 (Gf.inv ((M1 2).getD 2 0)) (N1 2))):=rfl
    have wi:=winv _ hv0
    generalize (M1 2).getD 2 0=v at hcc wi htm
    generalize Gf.inv v=by_ at wi htm
    have hcx:(bx (M1 2))[0+((2:Nat):Int).toNat]?=some [u8 v]:=Q7 hcc
    have w1:=wtm (M1 2) by_ hM1c
    have w2:=wtm (N1 2) by_ hN1c
    rw[hM1c]at w1
    rw[hN1c]at w2
    refine y8 ⟨⟨166,[(4,.p (.box F)),(5,.msl 0 1 0 3),(8,.msl 4 1 0 3),(59,i64 3),(10,i64 2),(60,i64 2),(12,.p (u8 by_))]⟩,[.cells z5 [.msl 1 1 0 3,.msl 2 1 0 3,.msl 3 1 0 3],.row z4 1 (bx (M1 0)),.row z4 1 (bx (M1 1)),.row z4 1 (bx (M1 2)),.cells z5 [.msl 5 1 0 3,.msl 6 1 0 3,.msl 7 1 0 3],.row z4 1 (bx (N1 0)),.row z4 1 (bx (N1 1)),.row z4 1 (bx (N1 2))]⟩ True (q7 hT ?_) (fun _=>?_)
    ·refine⟨by decide,?_⟩
     refine⟨⟨by decide,by decide⟩,?_⟩
     refine u7 hcx ?_
     refine x8 (u5 wi _ rfl rfl) ?_
     exact⟨q9 [0,1,2,3,4,5,6,7] [4,5,8,59,10,60,12] rfl,trivial⟩
    obtain⟨M2,hM2⟩:∃ M2,M2=Y0 M1 2 (V4 by_ (M1 2)):=⟨_,rfl⟩
    obtain⟨N2,hN2⟩:∃ N2,N2=Y0 N1 2 (V4 by_ (N1 2)):=⟨_,rfl⟩
    rw[← hM2,← hN2]at htm
    have lm2:Y9 3 M2:=by rw[hM2];exact X7 lm 2 (by rw[X4];exact hM1c)
    have ln2:Y9 3 N2:=by rw[hN2];exact X7 ln 2 (by rw[X4];exact hN1c)
    refine y8 ⟨⟨166,[(4,.p (.box F)),(5,.msl 0 1 0 3),(8,.msl 4 1 0 3),(59,i64 3),(10,i64 2),(60,i64 2),(12,.p (u8 by_))]⟩,[.cells z5 [.msl 1 1 0 3,.msl 2 1 0 3,.msl 3 1 0 3],.row z4 1 (bx (M2 0)),.row z4 1 (bx (M2 1)),.row z4 1 (bx (M2 2)),.cells z5 [.msl 5 1 0 3,.msl 6 1 0 3,.msl 7 1 0 3],.row z4 1 (bx (N1 0)),.row z4 1 (bx (N1 1)),.row z4 1 (bx (N1 2))]⟩ True (q7 hT ?_) (fun _=>?_)
    ·refine⟨by decide,?_⟩
     refine x8 (Q1 [3] w1 rfl rfl rfl) ?_
     rw[hM2]
     exact⟨q9 [0,1,2,3,4,5,6,7] [4,5,8,59,10,60,12] rfl,trivial⟩
    refine y8 ⟨⟨166,[(4,.p (.box F)),(5,.msl 0 1 0 3),(8,.msl 4 1 0 3),(59,i64 3),(10,i64 2),(60,i64 2)]⟩,[.cells z5 [.msl 1 1 0 3,.msl 2 1 0 3,.msl 3 1 0 3],.row z4 1 (bx (M2 0)),.row z4 1 (bx (M2 1)),.row z4 1 (bx (M2 2)),.cells z5 [.msl 5 1 0 3,.msl 6 1 0 3,.msl 7 1 0 3],.row z4 1 (bx (N2 0)),.row z4 1 (bx (N2 1)),.row z4 1 (bx (N2 2))]⟩ True (q7 hT ?_) (fun _=>?_)
    ·refine⟨by decide,?_⟩
     refine x8 (Q1 [7] w2 rfl rfl rfl) ?_
     rw[hN2]
     exact⟨q9 [0,1,2,3,4,5,6,7] [4,5,8,59,10,60] rfl,trivial⟩
    have hend:g 3=elS 2 (M2,N2) 3:=by rw[hs];unfold q1n;rw[hsw,htm]
    clear w1 w2 wi hM1 hN1 hM2 hN2 hsw htm hs lm ln hcc hcx hv0 hM1c hN1c
    refine q8 (q7 hT ?_)
    refine z7 ?_
    refine w7 (fun n s=>∃ (k:Nat) (j:Int) (M N:W8),n+k=3∧j=k∧elS 2 (M2,N2) k=(M,N)∧s=⟨⟨166,[(4,.p (.box F)),(5,.msl 0 1 0 3),(8,.msl 4 1 0 3),(59,i64 3),(10,i64 2),(60,i64 2),(122,.msl 0 1 0 3),(123,i64 3),(124,i64 j)]⟩,[.cells z5 [.msl 1 1 0 3,.msl 2 1 0 3,.msl 3 1 0 3],.row z4 1 (bx (M 0)),.row z4 1 (bx (M 1)),.row z4 1 (bx (M 2)),.cells z5 [.msl 5 1 0 3,.msl 6 1 0 3,.msl 7 1 0 3],.row z4 1 (bx (N 0)),.row z4 1 (bx (N 1)),.row z4 1 (bx (N 2))]⟩) 3 ⟨⟨166,_⟩,_⟩ (q9 [0,1,2,3,4,5,6,7] [4,5,8,59,10,60,122,123,124] rfl) ⟨0,0,M2,N2,rfl,rfl,rfl,rfl⟩ ?_
    rintro n2 s ⟨k,j,M,N,hnk,hj,hMN,rfl⟩
    have hlk:=q2j (r:=3) (c:=2) (by decide) (G:=(M2,N2)) lm2 ln2 k (by omega)
    rw[hMN]at hlk
    obtain⟨m1,m2⟩:=hlk
    have m1:Y9 3 M:=m1
    have m2:Y9 3 N:=m2
    have hsk:elS 2 (M2,N2) (k+1)=Y4 2 k (M,N):=by rw[elS,hMN]
    refine q8 (q7 hT ?_)
    refine q8 (z6 (x7 (fun h=>?_) (fun h=>?_)))
    ·have h:=of_decide_eq_true (show decide (j<((3:Nat):Int))=true from h)
     refine z9 ?_
     have hk4:k=0∨k=1∨k=2:=by omega
     subst hj
     refine w6 (fun st=>∃ M' N',elS 2 (M2,N2) (k+1)=(M',N')∧st=⟨⟨166,[(4,.p (.box F)),(5,.msl 0 1 0 3),(8,.msl 4 1 0 3),(59,i64 3),(10,i64 2),(60,i64 2),(122,.msl 0 1 0 3),(123,i64 3),(124,i64 k)]⟩,[.cells z5 [.msl 1 1 0 3,.msl 2 1 0 3,.msl 3 1 0 3],.row z4 1 (bx (M' 0)),.row z4 1 (bx (M' 1)),.row z4 1 (bx (M' 2)),.cells z5 [.msl 5 1 0 3,.msl 6 1 0 3,.msl 7 1 0 3],.row z4 1 (bx (N' 0)),.row z4 1 (bx (N' 1)),.row z4 1 (bx (N' 2))]⟩) (z7 ?_) ?_
     ·rcases hk4 with rfl|rfl|rfl
      ·have hg:=Z3 (l:=M 0) (c:=2) (by rw[m1 0 (by decide)];decide)
       have hcond:∀ x,(M 0).getD 2 0=x→Y4 2 0 (M,N)=match !Nat.beq 0 2&&x != 0 with|true=>(Y0 M 0 (Y7 (M 0) (M 2) x),Y0 N 0 (Y7 (N 0) (N 2) x))|false=>(M,N):=fun x hx=>by subst hx;rfl
       generalize hx:(M 0).getD 2 0=x at hg
       rw[hcond x hx]at hsk
       clear hcond hx
       have hgx:(bx (M 0))[0+((2:Nat):Int).toNat]?=some [u8 x]:=Q7 hg
       refine q8 (q7 hT ?_)
       refine q8 (q7 hT ?_)
       refine⟨by decide,?_⟩
       refine⟨⟨by decide,by decide⟩,?_⟩
       refine u7 hgx ?_
       refine q8 (q7 hT ?_)
       refine z6 (x7 (fun h=>?_) (fun h=>?_))
       ·have h:(((x.toNat:Nat):Int) != 0)=true:=h
        rw[bne_iff_ne]at h
        have hne:x≠0:=fun e=>h (by rw[e];rfl)
        rw[bne_iff_ne.mpr hne]at hsk
        have w1:=wad (M 0) (M 2) x (m1 0 (by decide)) (m1 2 (by decide))
        have w2:=wad (N 0) (N 2) x (m2 0 (by decide)) (m2 2 (by decide))
        rw[m1 0 (by decide)]at w1
        rw[m2 0 (by decide)]at w2
        refine q8 ?_
        refine w9 [10] [] hT z8 (by rfl) ?_
        refine⟨by decide,?_⟩
        refine⟨by decide,?_⟩
        refine⟨_,_,Q1 [1,3] w1 rfl rfl rfl,?_⟩
        repeat first|refine⟨rfl,?_⟩|refine⟨⟨by decide,rfl⟩,?_⟩
        refine w9 [10] [] hT z8 (by rfl) ?_
        refine⟨by decide,?_⟩
        refine⟨by decide,?_⟩
        refine⟨_,_,Q1 [5,7] w2 rfl rfl rfl,?_⟩
        repeat first|refine⟨rfl,?_⟩|refine⟨⟨by decide,rfl⟩,?_⟩
        exact⟨_,q9 [0,1,2,3,4,5,6,7] [4,5,8,59,10,60,122,123,124] rfl,_,_,hsk,rfl⟩
       ·have h:(((x.toNat:Nat):Int) != 0)=false:=h
        rw[bne_eq_false_iff_eq]at h
        have hx0:x=0:=UInt8.toNat_inj.mp (by show x.toNat=0;omega)
        rw[hx0]at hsk
        exact z9 ⟨_,q9 [0,1,2,3,4,5,6,7] [4,5,8,59,10,60,122,123,124] rfl,M,N,hsk,rfl⟩
      ·have hg:=Z3 (l:=M 1) (c:=2) (by rw[m1 1 (by decide)];decide)
       have hcond:∀ x,(M 1).getD 2 0=x→Y4 2 1 (M,N)=match !Nat.beq 1 2&&x != 0 with|true=>(Y0 M 1 (Y7 (M 1) (M 2) x),Y0 N 1 (Y7 (N 1) (N 2) x))|false=>(M,N):=fun x hx=>by subst hx;rfl
       generalize hx:(M 1).getD 2 0=x at hg
       rw[hcond x hx]at hsk
       clear hcond hx
       have hgx:(bx (M 1))[0+((2:Nat):Int).toNat]?=some [u8 x]:=Q7 hg
       refine q8 (q7 hT ?_)
       refine q8 (q7 hT ?_)
       refine⟨by decide,?_⟩
       refine⟨⟨by decide,by decide⟩,?_⟩
       refine u7 hgx ?_
       refine q8 (q7 hT ?_)
       refine z6 (x7 (fun h=>?_) (fun h=>?_))
       ·have h:(((x.toNat:Nat):Int) != 0)=true:=h
        rw[bne_iff_ne]at h
        have hne:x≠0:=fun e=>h (by rw[e];rfl)
        rw[bne_iff_ne.mpr hne]at hsk
        have w1:=wad (M 1) (M 2) x (m1 1 (by decide)) (m1 2 (by decide))
        have w2:=wad (N 1) (N 2) x (m2 1 (by decide)) (m2 2 (by decide))
        rw[m1 1 (by decide)]at w1
        rw[m2 1 (by decide)]at w2
        refine q8 ?_
        refine w9 [10] [] hT z8 (by rfl) ?_
        refine⟨by decide,?_⟩
        refine⟨by decide,?_⟩
        refine⟨_,_,Q1 [2,3] w1 rfl rfl rfl,?_⟩
        repeat first|refine⟨rfl,?_⟩|refine⟨⟨by decide,rfl⟩,?_⟩
        refine w9 [10] [] hT z8 (by rfl) ?_
        refine⟨by decide,?_⟩
        refine⟨by decide,?_⟩
        refine⟨_,_,Q1 [6,7] w2 rfl rfl rfl,?_⟩
        repeat first|refine⟨rfl,?_⟩|refine⟨⟨by decide,rfl⟩,?_⟩
        exact⟨_,q9 [0,1,2,3,4,5,6,7] [4,5,8,59,10,60,122,123,124] rfl,_,_,hsk,rfl⟩
       ·have h:(((x.toNat:Nat):Int) != 0)=false:=h
        rw[bne_eq_false_iff_eq]at h
        have hx0:x=0:=UInt8.toNat_inj.mp (by show x.toNat=0;omega)
        rw[hx0]at hsk
        exact z9 ⟨_,q9 [0,1,2,3,4,5,6,7] [4,5,8,59,10,60,122,123,124] rfl,M,N,hsk,rfl⟩
      ·have hg:=Z3 (l:=M 2) (c:=2) (by rw[m1 2 (by decide)];decide)
       have hcond:∀ x,(M 2).getD 2 0=x→Y4 2 2 (M,N)=match !Nat.beq 2 2&&x != 0 with|true=>(Y0 M 2 (Y7 (M 2) (M 2) x),Y0 N 2 (Y7 (N 2) (N 2) x))|false=>(M,N):=fun x hx=>by subst hx;rfl
       generalize hx:(M 2).getD 2 0=x at hg
       rw[hcond x hx]at hsk
       clear hcond hx
       have hgx:(bx (M 2))[0+((2:Nat):Int).toNat]?=some [u8 x]:=Q7 hg
       refine q8 (q7 hT ?_)
       refine q8 (q7 hT ?_)
       refine⟨by decide,?_⟩
       refine⟨⟨by decide,by decide⟩,?_⟩
       refine u7 hgx ?_
       refine q8 (q7 hT ?_)
       refine z6 ?_
       exact z9 ⟨_,q9 [0,1,2,3,4,5,6,7] [4,5,8,59,10,60,122,123,124] rfl,M,N,hsk,rfl⟩
     ·rintro _ ⟨M',N',hMN',rfl⟩
      refine q7 hT ?_
      exact⟨n2 - 1,by omega,_,q9 [0,1,2,3,4,5,6,7] [4,5,8,59,10,60,122,123,124] rfl,k+1,IntKind.i64.wrap ((k:Int)+1),M',N',by omega,by rw[x9 _ (by omega) (by omega)];rfl,hMN',rfl⟩
    ·have h:=of_decide_eq_false (show decide (j<((3:Nat):Int))=false from h)
     have hkr:k=3:=by omega
     rw[hkr,← hend]at hMN
     rw[hMN]
     refine u0 ?_
     exact⟨q9 [0,1,2,3,4,5,6,7] [4,5,8,59,60] rfl,trivial⟩
   ·refine q7 hT ?_
    exact⟨0,by decide,_,q9 [0,1,2,3,4,5,6,7] [4,5,8,59,60] rfl,(.inr (.inr (.inr ⟨rfl,rfl⟩)))⟩
  ·refine q8 (q7 hT ?_)
   refine q8 (z6 ?_)
   refine u0 ?_
   exact⟨q9 [4,5,6,7] [8] rfl,trivial⟩
 refine q8 (q7 hT ?_)
 refine x6 ?_
 exact y9 [0,1,2,3] ⟨rfl,rfl⟩ rfl
end Go.Proofs.YtinfbclgkghgaaaGreat.AL
