/- A part of the proof. -/
import Derived.Test.YtkjklhcfgbaceaaGreatScruhK
open Go.Proofs.Tryz renaming prog→k0q
open List renaming getElem?_eq_getElem→k0w,getD_eq_getElem?_getD→k0v,getElem?_eq_some_iff→k0t,getElem?_map→k1z,length_append→k1y,length_map→k1x,getElem_mem→k1w,take_add_one→k2t,length_range→k3q
open Int renaming toNat_natCast→k0u,natCast_nonneg→k2w
open Nat renaming le_refl→k1v
open Bool renaming and_eq_true→k1u
set_option maxHeartbeats 4000000
set_option maxRecDepth 20000

namespace Go.Proofs.YtkjklhcfgbaceaaGreat.AL
open Go Go.Proofs
theorem v0n (a0:x8)(B:List x8)(q c:Nat)(q1:1≤q)(q2:q≤64)(c1:1≤c)(c2:c≤4096)(hA:∀ s∈([a0]:List x8),s.length=q)(hB:B.length=q)(hBc:∀ s∈B,s.length=c) :
 AFm k0q 1 q0r [.p (.sl 1 (x9 [a0])),.msl 0 1 0 q] [.row y7 1 (x9 B)] (Q8 (.tup [.p (.sl 1 (x9 [Q5 a0 B c q])),i64 0]) [.row y7 1 (x9 B)]):=by
 have wA:=q0i [a0] q (show 1≤1 by decide) (show 1≤64 by decide) q1 (by omega) hA
 have wB:=q0i B c (by omega) (by omega) c1 c2 hBc
 have wn:=q4r
 have hcl:=Y4 B
 have h0:=k0w (show 0<B.length by omega)
 have hc0:=hBc _ (k1w (show 0<B.length by omega))
 generalize B[0]=b0 at h0 hc0
 have hx0:(x9 B)[0+(0:Int).toNat]?=some [bP b0]:=Y3 h0
 have hb0:=Z0 b0
 have wf:=z4k q1m (bx b0).length (by omega) (fun _ _=>0) (fun i k _ _=>q4v i k)
 have ha0:a0.length=q:=hA a0 (by simp)
 have hx10:=Z0 a0
 have hmk0:=X2 (B:=B) a0 hBc (k:=q) (by omega)
 have wadd:=fun(to row:x8) (x:UInt8) (ht:to.length=c) (hr:row.length=c)=>q7d to row x (by omega) (by omega)
 unfold q3x at wn wadd
 generalize fP=F at wn wadd
 refine Z5 1 hT Tryz.func164 rfl rfl Tryz.ntmps164 rfl rfl ?_
 refine z7 hT ?_
 have lend:=z5p wB 0 (H:=[.row y7 1 (x9 B)]) (args:=[.msl 0 1 0 q]) (t:=y7) (sz:=1) (xs:=x9 B) rfl ⟨.inr (.inl ⟨congrArg (AV.msl 0 1 0) (show q=(x9 B).length by omega),rfl⟩),trivial⟩ rfl (fun k hk=>by simp at hk)
 refine w9 ⟨⟨65,[(0,.p (.sl 1 (x9 [a0]))),(1,.msl 0 1 0 q)]⟩,[.row y7 1 (x9 B)]⟩ True (z7 hT ?_) (fun _=>?_)
 ·refine Q1 (Q4 wA _ rfl rfl) ?_
  refine Q1 lend ?_
  refine⟨by decide,Z1 rfl ?_⟩
  refine y6 (u7 (fun h=>?_) (fun h=>?_))
  ·have h:((((bx a0).length:Nat):Int) != ((q:Nat):Int))=true:=h
   rw[bne_iff_ne]at h
   omega
  exact x6 ⟨z6 [0] [0,1] rfl,trivial⟩
 refine z7 hT ?_
 refine Q1 (Q4 wn _ rfl rfl) ?_
 refine Q3 (fun st=>∃ c',c'=c∧st=⟨⟨65,[(0,.p (.sl 1 (x9 [a0]))),(1,.msl 0 1 0 q),(6,.p (.box F)),(7,.msl 1 1 0 1)]⟩,[.row y7 1 (x9 B),.cells y7 [.msl 2 1 0 c'],.row y9 1 (bx (Z4 (fun _ _=>0) c' 0))]⟩) (z8 hT ?_) ?_
 ·refine⟨⟨by decide,by omega⟩,?_⟩
  refine Z1 hx0 ?_
  refine Q1 (q1k wf _ rfl) ?_
  exact⟨_,z6 [0,1,2] [0,1,6,7] rfl,_,hb0.trans hc0,rfl⟩
 rintro _ ⟨c,rfl,rfl⟩
 clear wf
 refine w9 ⟨⟨65,[(7,.msl 1 1 0 1)]⟩,[.row y7 1 (x9 B),.cells y7 [.msl 2 1 0 c],.row y9 1 (bx (Q5 a0 B c q))]⟩ True (z7 hT ?_) (fun _=>?_)
 ·refine y8 ?_
  refine Q2 (fun n s=>(n=1∧s=⟨⟨65,[(0,.p (.sl 1 (x9 [a0]))),(1,.msl 0 1 0 q),(6,.p (.box F)),(7,.msl 1 1 0 1),(37,.p (.sl 1 (x9 [a0]))),(38,i64 1),(39,i64 0)]⟩,[.row y7 1 (x9 B),.cells y7 [.msl 2 1 0 c],.row y9 1 (bx (Q5 a0 B c 0))]⟩)∨(n=0∧s=⟨⟨65,[(0,.p (.sl 1 (x9 [a0]))),(1,.msl 0 1 0 q),(6,.p (.box F)),(7,.msl 1 1 0 1),(37,.p (.sl 1 (x9 [a0]))),(38,i64 1),(39,i64 1)]⟩,[.row y7 1 (x9 B),.cells y7 [.msl 2 1 0 c],.row y9 1 (bx (Q5 a0 B c q))]⟩)) 1 ⟨⟨65,_⟩,_⟩ (z6 [0,1,2] [0,1,6,7,37,38,39] rfl) (.inl ⟨rfl,by rw[q4w a0 B c 0];rfl⟩) ?_
  rintro n s (⟨rfl,rfl⟩|⟨rfl,rfl⟩)
  ·refine z7 hT ?_
   refine u6 (y6 ?_)
   refine x6 ?_
   refine w9 ⟨⟨65,[(0,.p (.sl 1 (x9 [a0]))),(1,.msl 0 1 0 q),(6,.p (.box F)),(7,.msl 1 1 0 1),(37,.p (.sl 1 (x9 [a0]))),(38,i64 1),(8,i64 0),(39,i64 0)]⟩,[.row y7 1 (x9 B),.cells y7 [.msl 2 1 0 c],.row y9 1 (bx (Q5 a0 B c q))]⟩ True (y8 ?_) (fun _=>?_)
   ·refine z7 hT ?_
    refine⟨by decide,Z1 rfl ?_⟩
    refine z7 hT ?_
    refine y8 ?_
    refine Q2 (fun n s=>∃ (k:Nat) (j:Int),n+k=q∧j=k∧s=⟨⟨65,[(0,.p (.sl 1 (x9 [a0]))),(1,.msl 0 1 0 q),(6,.p (.box F)),(7,.msl 1 1 0 1),(37,.p (.sl 1 (x9 [a0]))),(38,i64 1),(8,i64 0),(39,i64 0),(44,bA a0),(45,i64 (bx a0).length),(46,i64 j)]⟩,[.row y7 1 (x9 B),.cells y7 [.msl 2 1 0 c],.row y9 1 (bx (Q5 a0 B c k))]⟩) q ⟨⟨65,_⟩,_⟩ (z6 [0,1,2] [0,1,6,7,37,38,8,39,44,45,46] rfl) ⟨0,0,by omega,rfl,rfl⟩ ?_
    rintro n2 s ⟨k,j,hnk,hj,rfl⟩
    refine z7 hT ?_
    refine u6 (y6 (u7 (fun h=>?_) (fun h=>?_)))
    ·have h:=k0z (show decide (j<(((bx a0).length:Nat):Int))=true from h)
     have hk:k<a0.length:=by omega
     have hkB:k<B.length:=by omega
     refine x6 ?_
     have hxa:=k0w hk
     have hxb:=k0w hkB
     have hst:=U2 c hxa hxb
     have hlb:=hBc _ (k1w hkB)
     generalize a0[k]=x at hxa hst
     generalize B[k]=b at hxb hst hlb
     have hxp:(bx a0)[j.toNat]?=some [u8 x]:=by rw[hj,k0u];exact W6 hxa
     have hbp:(x9 B)[0+j.toNat]?=some [bP b]:=by rw[hj,k0u,Nat.zero_add];exact Y3 hxb
     have hml:=X2 (B:=B) a0 hBc (k:=k) (by omega)
     have w:=wadd (Q5 a0 B c k) b x hml hlb
     rw[hml,← hst]at w
     refine w9 ⟨⟨65,[(0,.p (.sl 1 (x9 [a0]))),(1,.msl 0 1 0 q),(6,.p (.box F)),(7,.msl 1 1 0 1),(37,.p (.sl 1 (x9 [a0]))),(38,i64 1),(8,i64 0),(39,i64 0),(44,bA a0),(45,i64 (bx a0).length),(46,i64 j)]⟩,[.row y7 1 (x9 B),.cells y7 [.msl 2 1 0 c],.row y9 1 (bx (Q5 a0 B c (k+1)))]⟩ True (y8 (z7 hT ?_)) (fun _=>?_)
     ·refine⟨by omega,Z1 hxp ?_⟩
      refine Q9 [10] [] hT u5 (by rfl) ?_
      refine⟨by decide,?_⟩
      refine⟨⟨by omega,by omega⟩,?_⟩
      refine Z1 hbp ?_
      refine⟨_,_,Z7 [2] w rfl rfl rfl,?_⟩
      repeat first|refine⟨rfl,?_⟩|refine⟨⟨by decide,rfl⟩,?_⟩|refine⟨⟨⟨by omega,by omega⟩,rfl⟩,?_⟩|refine⟨Z1 hbp rfl,?_⟩
      exact⟨z6 [0,1,2] [0,1,6,7,37,38,8,39,44,45,46] rfl,trivial⟩
     ·refine z8 hT ?_
      exact⟨n2 - 1,by omega,_,z6 [0,1,2] [0,1,6,7,37,38,8,39,44,45,46] rfl,k+1,IntKind.i64.wrap (j+1),by omega,by rw[Q0 _ (by omega) (by omega)];omega,rfl⟩
    ·have h:=k0y (show decide (j<(((bx a0).length:Nat):Int))=false from h)
     rw[show k=q by omega]
     refine Q6 ?_
     exact⟨z6 [0,1,2] [0,1,6,7,37,38,8,39] rfl,trivial⟩
   ·refine z8 hT ?_
    exact⟨0,by decide,_,z6 [0,1,2] [0,1,6,7,37,38,39] rfl,(.inr ⟨rfl,rfl⟩)⟩
  ·refine z7 hT ?_
   refine u6 (y6 ?_)
   refine Q6 ?_
   exact⟨z6 [0,1,2] [7] rfl,trivial⟩
 refine Z2 (q0b 2 1 0 c rfl rfl rfl (by rw[Z0,hmk0])) ?_
 refine Z2 (q2m 1 [bP (Q5 a0 B c q)] rfl rfl (show 1≤140737488355328 by decide)) ?_
 refine Z2 (q1g 7 1 _ rfl rfl rfl rfl) ?_
 refine z7 hT ?_
 refine u0 ?_
 exact x7 [0] ⟨rfl,rfl⟩ rfl
theorem v0p (a0 a1:x8)(B:List x8)(q c:Nat)(q1:1≤q)(q2:q≤64)(c1:1≤c)(c2:c≤4096)(hA:∀ s∈([a0,a1]:List x8),s.length=q)(hB:B.length=q)(hBc:∀ s∈B,s.length=c) :
 AFm k0q 1 q0r [.p (.sl 1 (x9 [a0,a1])),.msl 0 1 0 q] [.row y7 1 (x9 B)] (Q8 (.tup [.p (.sl 1 (x9 [Q5 a0 B c q,Q5 a1 B c q])),i64 0]) [.row y7 1 (x9 B)]):=by
 have wA:=q0i [a0,a1] q (show 1≤2 by decide) (show 2≤64 by decide) q1 (by omega) hA
 have wB:=q0i B c (by omega) (by omega) c1 c2 hBc
 have wn:=q4r
 have hcl:=Y4 B
 have h0:=k0w (show 0<B.length by omega)
 have hc0:=hBc _ (k1w (show 0<B.length by omega))
 generalize B[0]=b0 at h0 hc0
 have hx0:(x9 B)[0+(0:Int).toNat]?=some [bP b0]:=Y3 h0
 have hb0:=Z0 b0
 have wf:=z4m q1m (bx b0).length (by omega) (fun _ _=>0) (fun i k _ _=>q4v i k)
 have ha0:a0.length=q:=hA a0 (by simp)
 have hx10:=Z0 a0
 have ha1:a1.length=q:=hA a1 (by simp)
 have hx11:=Z0 a1
 have hmk0:=X2 (B:=B) a0 hBc (k:=q) (by omega)
 have hmk1:=X2 (B:=B) a1 hBc (k:=q) (by omega)
 have wadd:=fun(to row:x8) (x:UInt8) (ht:to.length=c) (hr:row.length=c)=>q7d to row x (by omega) (by omega)
 unfold q3x at wn wadd
 generalize fP=F at wn wadd
 refine Z5 1 hT Tryz.func164 rfl rfl Tryz.ntmps164 rfl rfl ?_
 refine z7 hT ?_
 have lend:=z5p wB 0 (H:=[.row y7 1 (x9 B)]) (args:=[.msl 0 1 0 q]) (t:=y7) (sz:=1) (xs:=x9 B) rfl ⟨.inr (.inl ⟨congrArg (AV.msl 0 1 0) (show q=(x9 B).length by omega),rfl⟩),trivial⟩ rfl (fun k hk=>by simp at hk)
 refine w9 ⟨⟨65,[(0,.p (.sl 1 (x9 [a0,a1]))),(1,.msl 0 1 0 q)]⟩,[.row y7 1 (x9 B)]⟩ True (z7 hT ?_) (fun _=>?_)
 ·refine Q1 (Q4 wA _ rfl rfl) ?_
  refine Q1 lend ?_
  refine⟨by decide,Z1 rfl ?_⟩
  refine y6 (u7 (fun h=>?_) (fun h=>?_))
  ·have h:((((bx a0).length:Nat):Int) != ((q:Nat):Int))=true:=h
   rw[bne_iff_ne]at h
   omega
  exact x6 ⟨z6 [0] [0,1] rfl,trivial⟩
 refine z7 hT ?_
 refine Q1 (Q4 wn _ rfl rfl) ?_
 refine Q3 (fun st=>∃ c',c'=c∧st=⟨⟨65,[(0,.p (.sl 1 (x9 [a0,a1]))),(1,.msl 0 1 0 q),(6,.p (.box F)),(7,.msl 1 1 0 2)]⟩,[.row y7 1 (x9 B),.cells y7 [.msl 2 1 0 c',.msl 3 1 0 c'],.row y9 1 (bx (Z4 (fun _ _=>0) c' 0)),.row y9 1 (bx (Z4 (fun _ _=>0) c' 1))]⟩) (z8 hT ?_) ?_
 ·refine⟨⟨by decide,by omega⟩,?_⟩
  refine Z1 hx0 ?_
  refine Q1 (q1k wf _ rfl) ?_
  exact⟨_,z6 [0,1,2,3] [0,1,6,7] rfl,_,hb0.trans hc0,rfl⟩
 rintro _ ⟨c,rfl,rfl⟩
 clear wf
 refine w9 ⟨⟨65,[(7,.msl 1 1 0 2)]⟩,[.row y7 1 (x9 B),.cells y7 [.msl 2 1 0 c,.msl 3 1 0 c],.row y9 1 (bx (Q5 a0 B c q)),.row y9 1 (bx (Q5 a1 B c q))]⟩ True (z7 hT ?_) (fun _=>?_)
 ·refine y8 ?_
  refine Q2 (fun n s=>(n=2∧s=⟨⟨65,[(0,.p (.sl 1 (x9 [a0,a1]))),(1,.msl 0 1 0 q),(6,.p (.box F)),(7,.msl 1 1 0 2),(37,.p (.sl 1 (x9 [a0,a1]))),(38,i64 2),(39,i64 0)]⟩,[.row y7 1 (x9 B),.cells y7 [.msl 2 1 0 c,.msl 3 1 0 c],.row y9 1 (bx (Q5 a0 B c 0)),.row y9 1 (bx (Q5 a1 B c 0))]⟩)∨(n=1∧s=⟨⟨65,[(0,.p (.sl 1 (x9 [a0,a1]))),(1,.msl 0 1 0 q),(6,.p (.box F)),(7,.msl 1 1 0 2),(37,.p (.sl 1 (x9 [a0,a1]))),(38,i64 2),(39,i64 1)]⟩,[.row y7 1 (x9 B),.cells y7 [.msl 2 1 0 c,.msl 3 1 0 c],.row y9 1 (bx (Q5 a0 B c q)),.row y9 1 (bx (Q5 a1 B c 0))]⟩)∨(n=0∧s=⟨⟨65,[(0,.p (.sl 1 (x9 [a0,a1]))),(1,.msl 0 1 0 q),(6,.p (.box F)),(7,.msl 1 1 0 2),(37,.p (.sl 1 (x9 [a0,a1]))),(38,i64 2),(39,i64 2)]⟩,[.row y7 1 (x9 B),.cells y7 [.msl 2 1 0 c,.msl 3 1 0 c],.row y9 1 (bx (Q5 a0 B c q)),.row y9 1 (bx (Q5 a1 B c q))]⟩)) 2 ⟨⟨65,_⟩,_⟩ (z6 [0,1,2,3] [0,1,6,7,37,38,39] rfl) (.inl ⟨rfl,by rw[q4w a0 B c 0,q4w a1 B c 1];rfl⟩) ?_
  rintro n s (⟨rfl,rfl⟩|⟨rfl,rfl⟩|⟨rfl,rfl⟩)
  ·refine z7 hT ?_
   refine u6 (y6 ?_)
   refine x6 ?_
   refine w9 ⟨⟨65,[(0,.p (.sl 1 (x9 [a0,a1]))),(1,.msl 0 1 0 q),(6,.p (.box F)),(7,.msl 1 1 0 2),(37,.p (.sl 1 (x9 [a0,a1]))),(38,i64 2),(8,i64 0),(39,i64 0)]⟩,[.row y7 1 (x9 B),.cells y7 [.msl 2 1 0 c,.msl 3 1 0 c],.row y9 1 (bx (Q5 a0 B c q)),.row y9 1 (bx (Q5 a1 B c 0))]⟩ True (y8 ?_) (fun _=>?_)
   ·refine z7 hT ?_
    refine⟨by decide,Z1 rfl ?_⟩
    refine z7 hT ?_
    refine y8 ?_
    refine Q2 (fun n s=>∃ (k:Nat) (j:Int),n+k=q∧j=k∧s=⟨⟨65,[(0,.p (.sl 1 (x9 [a0,a1]))),(1,.msl 0 1 0 q),(6,.p (.box F)),(7,.msl 1 1 0 2),(37,.p (.sl 1 (x9 [a0,a1]))),(38,i64 2),(8,i64 0),(39,i64 0),(44,bA a0),(45,i64 (bx a0).length),(46,i64 j)]⟩,[.row y7 1 (x9 B),.cells y7 [.msl 2 1 0 c,.msl 3 1 0 c],.row y9 1 (bx (Q5 a0 B c k)),.row y9 1 (bx (Q5 a1 B c 0))]⟩) q ⟨⟨65,_⟩,_⟩ (z6 [0,1,2,3] [0,1,6,7,37,38,8,39,44,45,46] rfl) ⟨0,0,by omega,rfl,rfl⟩ ?_
    rintro n2 s ⟨k,j,hnk,hj,rfl⟩
    refine z7 hT ?_
    refine u6 (y6 (u7 (fun h=>?_) (fun h=>?_)))
    ·have h:=k0z (show decide (j<(((bx a0).length:Nat):Int))=true from h)
     have hk:k<a0.length:=by omega
     have hkB:k<B.length:=by omega
     refine x6 ?_
     have hxa:=k0w hk
     have hxb:=k0w hkB
     have hst:=U2 c hxa hxb
     have hlb:=hBc _ (k1w hkB)
     generalize a0[k]=x at hxa hst
     generalize B[k]=b at hxb hst hlb
     have hxp:(bx a0)[j.toNat]?=some [u8 x]:=by rw[hj,k0u];exact W6 hxa
     have hbp:(x9 B)[0+j.toNat]?=some [bP b]:=by rw[hj,k0u,Nat.zero_add];exact Y3 hxb
     have hml:=X2 (B:=B) a0 hBc (k:=k) (by omega)
     have w:=wadd (Q5 a0 B c k) b x hml hlb
     rw[hml,← hst]at w
     refine w9 ⟨⟨65,[(0,.p (.sl 1 (x9 [a0,a1]))),(1,.msl 0 1 0 q),(6,.p (.box F)),(7,.msl 1 1 0 2),(37,.p (.sl 1 (x9 [a0,a1]))),(38,i64 2),(8,i64 0),(39,i64 0),(44,bA a0),(45,i64 (bx a0).length),(46,i64 j)]⟩,[.row y7 1 (x9 B),.cells y7 [.msl 2 1 0 c,.msl 3 1 0 c],.row y9 1 (bx (Q5 a0 B c (k+1))),.row y9 1 (bx (Q5 a1 B c 0))]⟩ True (y8 (z7 hT ?_)) (fun _=>?_)
     ·refine⟨by omega,Z1 hxp ?_⟩
      refine Q9 [10] [] hT u5 (by rfl) ?_
      refine⟨by decide,?_⟩
      refine⟨⟨by omega,by omega⟩,?_⟩
      refine Z1 hbp ?_
      refine⟨_,_,Z7 [2] w rfl rfl rfl,?_⟩
      repeat first|refine⟨rfl,?_⟩|refine⟨⟨by decide,rfl⟩,?_⟩|refine⟨⟨⟨by omega,by omega⟩,rfl⟩,?_⟩|refine⟨Z1 hbp rfl,?_⟩
      exact⟨z6 [0,1,2,3] [0,1,6,7,37,38,8,39,44,45,46] rfl,trivial⟩
     ·refine z8 hT ?_
      exact⟨n2 - 1,by omega,_,z6 [0,1,2,3] [0,1,6,7,37,38,8,39,44,45,46] rfl,k+1,IntKind.i64.wrap (j+1),by omega,by rw[Q0 _ (by omega) (by omega)];omega,rfl⟩
    ·have h:=k0y (show decide (j<(((bx a0).length:Nat):Int))=false from h)
     rw[show k=q by omega]
     refine Q6 ?_
     exact⟨z6 [0,1,2,3] [0,1,6,7,37,38,8,39] rfl,trivial⟩
   ·refine z8 hT ?_
    exact⟨1,by decide,_,z6 [0,1,2,3] [0,1,6,7,37,38,39] rfl,(.inr (.inl ⟨rfl,rfl⟩))⟩
  ·refine z7 hT ?_
   refine u6 (y6 ?_)
   refine x6 ?_
   refine w9 ⟨⟨65,[(0,.p (.sl 1 (x9 [a0,a1]))),(1,.msl 0 1 0 q),(6,.p (.box F)),(7,.msl 1 1 0 2),(37,.p (.sl 1 (x9 [a0,a1]))),(38,i64 2),(8,i64 1),(39,i64 1)]⟩,[.row y7 1 (x9 B),.cells y7 [.msl 2 1 0 c,.msl 3 1 0 c],.row y9 1 (bx (Q5 a0 B c q)),.row y9 1 (bx (Q5 a1 B c q))]⟩ True (y8 ?_) (fun _=>?_)
   ·refine z7 hT ?_
    refine⟨by decide,Z1 rfl ?_⟩
    refine z7 hT ?_
    refine y8 ?_
    refine Q2 (fun n s=>∃ (k:Nat) (j:Int),n+k=q∧j=k∧s=⟨⟨65,[(0,.p (.sl 1 (x9 [a0,a1]))),(1,.msl 0 1 0 q),(6,.p (.box F)),(7,.msl 1 1 0 2),(37,.p (.sl 1 (x9 [a0,a1]))),(38,i64 2),(8,i64 1),(39,i64 1),(44,bA a1),(45,i64 (bx a1).length),(46,i64 j)]⟩,[.row y7 1 (x9 B),.cells y7 [.msl 2 1 0 c,.msl 3 1 0 c],.row y9 1 (bx (Q5 a0 B c q)),.row y9 1 (bx (Q5 a1 B c k))]⟩) q ⟨⟨65,_⟩,_⟩ (z6 [0,1,2,3] [0,1,6,7,37,38,8,39,44,45,46] rfl) ⟨0,0,by omega,rfl,rfl⟩ ?_
    rintro n2 s ⟨k,j,hnk,hj,rfl⟩
    refine z7 hT ?_
    refine u6 (y6 (u7 (fun h=>?_) (fun h=>?_)))
    ·have h:=k0z (show decide (j<(((bx a1).length:Nat):Int))=true from h)
     have hk:k<a1.length:=by omega
     have hkB:k<B.length:=by omega
     refine x6 ?_
     have hxa:=k0w hk
     have hxb:=k0w hkB
     have hst:=U2 c hxa hxb
     have hlb:=hBc _ (k1w hkB)
     generalize a1[k]=x at hxa hst
     generalize B[k]=b at hxb hst hlb
     have hxp:(bx a1)[j.toNat]?=some [u8 x]:=by rw[hj,k0u];exact W6 hxa
     have hbp:(x9 B)[0+j.toNat]?=some [bP b]:=by rw[hj,k0u,Nat.zero_add];exact Y3 hxb
     have hml:=X2 (B:=B) a1 hBc (k:=k) (by omega)
     have w:=wadd (Q5 a1 B c k) b x hml hlb
     rw[hml,← hst]at w
     refine w9 ⟨⟨65,[(0,.p (.sl 1 (x9 [a0,a1]))),(1,.msl 0 1 0 q),(6,.p (.box F)),(7,.msl 1 1 0 2),(37,.p (.sl 1 (x9 [a0,a1]))),(38,i64 2),(8,i64 1),(39,i64 1),(44,bA a1),(45,i64 (bx a1).length),(46,i64 j)]⟩,[.row y7 1 (x9 B),.cells y7 [.msl 2 1 0 c,.msl 3 1 0 c],.row y9 1 (bx (Q5 a0 B c q)),.row y9 1 (bx (Q5 a1 B c (k+1)))]⟩ True (y8 (z7 hT ?_)) (fun _=>?_)
     ·refine⟨by omega,Z1 hxp ?_⟩
      refine Q9 [10] [] hT u5 (by rfl) ?_
      refine⟨by decide,?_⟩
      refine⟨⟨by omega,by omega⟩,?_⟩
      refine Z1 hbp ?_
      refine⟨_,_,Z7 [3] w rfl rfl rfl,?_⟩
      repeat first|refine⟨rfl,?_⟩|refine⟨⟨by decide,rfl⟩,?_⟩|refine⟨⟨⟨by omega,by omega⟩,rfl⟩,?_⟩|refine⟨Z1 hbp rfl,?_⟩
      exact⟨z6 [0,1,2,3] [0,1,6,7,37,38,8,39,44,45,46] rfl,trivial⟩
     ·refine z8 hT ?_
      exact⟨n2 - 1,by omega,_,z6 [0,1,2,3] [0,1,6,7,37,38,8,39,44,45,46] rfl,k+1,IntKind.i64.wrap (j+1),by omega,by rw[Q0 _ (by omega) (by omega)];omega,rfl⟩
    ·have h:=k0y (show decide (j<(((bx a1).length:Nat):Int))=false from h)
     rw[show k=q by omega]
     refine Q6 ?_
     exact⟨z6 [0,1,2,3] [0,1,6,7,37,38,8,39] rfl,trivial⟩
   ·refine z8 hT ?_
    exact⟨0,by decide,_,z6 [0,1,2,3] [0,1,6,7,37,38,39] rfl,(.inr (.inr ⟨rfl,rfl⟩))⟩
  ·refine z7 hT ?_
   refine u6 (y6 ?_)
   refine Q6 ?_
   exact⟨z6 [0,1,2,3] [7] rfl,trivial⟩
 refine Z2 (q0b 2 1 0 c rfl rfl rfl (by rw[Z0,hmk0])) ?_
 refine Z2 (q0b 3 1 1 c rfl rfl rfl (by rw[Z0,hmk1])) ?_
 refine Z2 (q2m 1 [bP (Q5 a0 B c q),bP (Q5 a1 B c q)] rfl rfl (show 2≤140737488355328 by decide)) ?_
 refine Z2 (q1g 7 1 _ rfl rfl rfl rfl) ?_
 refine z7 hT ?_
 refine u0 ?_
 exact x7 [0] ⟨rfl,rfl⟩ rfl
theorem v0q (a0 a1 a2:x8)(B:List x8)(q c:Nat)(q1:1≤q)(q2:q≤64)(c1:1≤c)(c2:c≤4096)(hA:∀ s∈([a0,a1,a2]:List x8),s.length=q)(hB:B.length=q)(hBc:∀ s∈B,s.length=c) :
 AFm k0q 1 q0r [.p (.sl 1 (x9 [a0,a1,a2])),.msl 0 1 0 q] [.row y7 1 (x9 B)] (Q8 (.tup [.p (.sl 1 (x9 [Q5 a0 B c q,Q5 a1 B c q,Q5 a2 B c q])),i64 0]) [.row y7 1 (x9 B)]):=by
 have wA:=q0i [a0,a1,a2] q (show 1≤3 by decide) (show 3≤64 by decide) q1 (by omega) hA
 have wB:=q0i B c (by omega) (by omega) c1 c2 hBc
 have wn:=q4r
 have hcl:=Y4 B
 have h0:=k0w (show 0<B.length by omega)
 have hc0:=hBc _ (k1w (show 0<B.length by omega))
 generalize B[0]=b0 at h0 hc0
 have hx0:(x9 B)[0+(0:Int).toNat]?=some [bP b0]:=Y3 h0
 have hb0:=Z0 b0
 have wf:=z4n q1m (bx b0).length (by omega) (fun _ _=>0) (fun i k _ _=>q4v i k)
 have ha0:a0.length=q:=hA a0 (by simp)
 have hx10:=Z0 a0
 have ha1:a1.length=q:=hA a1 (by simp)
 have hx11:=Z0 a1
 have ha2:a2.length=q:=hA a2 (by simp)
 have hx12:=Z0 a2
 have hmk0:=X2 (B:=B) a0 hBc (k:=q) (by omega)
 have hmk1:=X2 (B:=B) a1 hBc (k:=q) (by omega)
 have hmk2:=X2 (B:=B) a2 hBc (k:=q) (by omega)
 have wadd:=fun(to row:x8) (x:UInt8) (ht:to.length=c) (hr:row.length=c)=>q7d to row x (by omega) (by omega)
 unfold q3x at wn wadd
 generalize fP=F at wn wadd
 refine Z5 1 hT Tryz.func164 rfl rfl Tryz.ntmps164 rfl rfl ?_
 refine z7 hT ?_
 have lend:=z5p wB 0 (H:=[.row y7 1 (x9 B)]) (args:=[.msl 0 1 0 q]) (t:=y7) (sz:=1) (xs:=x9 B) rfl ⟨.inr (.inl ⟨congrArg (AV.msl 0 1 0) (show q=(x9 B).length by omega),rfl⟩),trivial⟩ rfl (fun k hk=>by simp at hk)
 refine w9 ⟨⟨65,[(0,.p (.sl 1 (x9 [a0,a1,a2]))),(1,.msl 0 1 0 q)]⟩,[.row y7 1 (x9 B)]⟩ True (z7 hT ?_) (fun _=>?_)
 ·refine Q1 (Q4 wA _ rfl rfl) ?_
  refine Q1 lend ?_
  refine⟨by decide,Z1 rfl ?_⟩
  refine y6 (u7 (fun h=>?_) (fun h=>?_))
  ·have h:((((bx a0).length:Nat):Int) != ((q:Nat):Int))=true:=h
   rw[bne_iff_ne]at h
   omega
  exact x6 ⟨z6 [0] [0,1] rfl,trivial⟩
 refine z7 hT ?_
 refine Q1 (Q4 wn _ rfl rfl) ?_
 refine Q3 (fun st=>∃ c',c'=c∧st=⟨⟨65,[(0,.p (.sl 1 (x9 [a0,a1,a2]))),(1,.msl 0 1 0 q),(6,.p (.box F)),(7,.msl 1 1 0 3)]⟩,[.row y7 1 (x9 B),.cells y7 [.msl 2 1 0 c',.msl 3 1 0 c',.msl 4 1 0 c'],.row y9 1 (bx (Z4 (fun _ _=>0) c' 0)),.row y9 1 (bx (Z4 (fun _ _=>0) c' 1)),.row y9 1 (bx (Z4 (fun _ _=>0) c' 2))]⟩) (z8 hT ?_) ?_
 ·refine⟨⟨by decide,by omega⟩,?_⟩
  refine Z1 hx0 ?_
  refine Q1 (q1k wf _ rfl) ?_
  exact⟨_,z6 [0,1,2,3,4] [0,1,6,7] rfl,_,hb0.trans hc0,rfl⟩
 rintro _ ⟨c,rfl,rfl⟩
 clear wf
 refine w9 ⟨⟨65,[(7,.msl 1 1 0 3)]⟩,[.row y7 1 (x9 B),.cells y7 [.msl 2 1 0 c,.msl 3 1 0 c,.msl 4 1 0 c],.row y9 1 (bx (Q5 a0 B c q)),.row y9 1 (bx (Q5 a1 B c q)),.row y9 1 (bx (Q5 a2 B c q))]⟩ True (z7 hT ?_) (fun _=>?_)
 ·refine y8 ?_
  refine Q2 (fun n s=>(n=3∧s=⟨⟨65,[(0,.p (.sl 1 (x9 [a0,a1,a2]))),(1,.msl 0 1 0 q),(6,.p (.box F)),(7,.msl 1 1 0 3),(37,.p (.sl 1 (x9 [a0,a1,a2]))),(38,i64 3),(39,i64 0)]⟩,[.row y7 1 (x9 B),.cells y7 [.msl 2 1 0 c,.msl 3 1 0 c,.msl 4 1 0 c],.row y9 1 (bx (Q5 a0 B c 0)),.row y9 1 (bx (Q5 a1 B c 0)),.row y9 1 (bx (Q5 a2 B c 0))]⟩)∨(n=2∧s=⟨⟨65,[(0,.p (.sl 1 (x9 [a0,a1,a2]))),(1,.msl 0 1 0 q),(6,.p (.box F)),(7,.msl 1 1 0 3),(37,.p (.sl 1 (x9 [a0,a1,a2]))),(38,i64 3),(39,i64 1)]⟩,[.row y7 1 (x9 B),.cells y7 [.msl 2 1 0 c,.msl 3 1 0 c,.msl 4 1 0 c],.row y9 1 (bx (Q5 a0 B c q)),.row y9 1 (bx (Q5 a1 B c 0)),.row y9 1 (bx (Q5 a2 B c 0))]⟩)∨(n=1∧s=⟨⟨65,[(0,.p (.sl 1 (x9 [a0,a1,a2]))),(1,.msl 0 1 0 q),(6,.p (.box F)),(7,.msl 1 1 0 3),(37,.p (.sl 1 (x9 [a0,a1,a2]))),(38,i64 3),(39,i64 2)]⟩,[.row y7 1 (x9 B),.cells y7 [.msl 2 1 0 c,.msl 3 1 0 c,.msl 4 1 0 c],.row y9 1 (bx (Q5 a0 B c q)),.row y9 1 (bx (Q5 a1 B c q)),.row y9 1 (bx (Q5 a2 B c 0))]⟩)∨(n=0∧s=⟨⟨65,[(0,.p (.sl 1 (x9 [a0,a1,a2]))),(1,.msl 0 1 0 q),(6,.p (.box F)),(7,.msl 1 1 0 3),(37,.p (.sl 1 (x9 [a0,a1,a2]))),(38,i64 3),(39,i64 3)]⟩,[.row y7 1 (x9 B),.cells y7 [.msl 2 1 0 c,.msl 3 1 0 c,.msl 4 1 0 c],.row y9 1 (bx (Q5 a0 B c q)),.row y9 1 (bx (Q5 a1 B c q)),.row y9 1 (bx (Q5 a2 B c q))]⟩)) 3 ⟨⟨65,_⟩,_⟩ (z6 [0,1,2,3,4] [0,1,6,7,37,38,39] rfl) (.inl ⟨rfl,by rw[q4w a0 B c 0,q4w a1 B c 1,q4w a2 B c 2];rfl⟩) ?_
  rintro n s (⟨rfl,rfl⟩|⟨rfl,rfl⟩|⟨rfl,rfl⟩|⟨rfl,rfl⟩)
  ·refine z7 hT ?_
   refine u6 (y6 ?_)
   refine x6 ?_
   refine w9 ⟨⟨65,[(0,.p (.sl 1 (x9 [a0,a1,a2]))),(1,.msl 0 1 0 q),(6,.p (.box F)),(7,.msl 1 1 0 3),(37,.p (.sl 1 (x9 [a0,a1,a2]))),(38,i64 3),(8,i64 0),(39,i64 0)]⟩,[.row y7 1 (x9 B),.cells y7 [.msl 2 1 0 c,.msl 3 1 0 c,.msl 4 1 0 c],.row y9 1 (bx (Q5 a0 B c q)),.row y9 1 (bx (Q5 a1 B c 0)),.row y9 1 (bx (Q5 a2 B c 0))]⟩ True (y8 ?_) (fun _=>?_)
   ·refine z7 hT ?_
    refine⟨by decide,Z1 rfl ?_⟩
    refine z7 hT ?_
    refine y8 ?_
    refine Q2 (fun n s=>∃ (k:Nat) (j:Int),n+k=q∧j=k∧s=⟨⟨65,[(0,.p (.sl 1 (x9 [a0,a1,a2]))),(1,.msl 0 1 0 q),(6,.p (.box F)),(7,.msl 1 1 0 3),(37,.p (.sl 1 (x9 [a0,a1,a2]))),(38,i64 3),(8,i64 0),(39,i64 0),(44,bA a0),(45,i64 (bx a0).length),(46,i64 j)]⟩,[.row y7 1 (x9 B),.cells y7 [.msl 2 1 0 c,.msl 3 1 0 c,.msl 4 1 0 c],.row y9 1 (bx (Q5 a0 B c k)),.row y9 1 (bx (Q5 a1 B c 0)),.row y9 1 (bx (Q5 a2 B c 0))]⟩) q ⟨⟨65,_⟩,_⟩ (z6 [0,1,2,3,4] [0,1,6,7,37,38,8,39,44,45,46] rfl) ⟨0,0,by omega,rfl,rfl⟩ ?_
    rintro n2 s ⟨k,j,hnk,hj,rfl⟩
    refine z7 hT ?_
    refine u6 (y6 (u7 (fun h=>?_) (fun h=>?_)))
    ·have h:=k0z (show decide (j<(((bx a0).length:Nat):Int))=true from h)
     have hk:k<a0.length:=by omega
     have hkB:k<B.length:=by omega
     refine x6 ?_
     have hxa:=k0w hk
     have hxb:=k0w hkB
     have hst:=U2 c hxa hxb
     have hlb:=hBc _ (k1w hkB)
     generalize a0[k]=x at hxa hst
     generalize B[k]=b at hxb hst hlb
     have hxp:(bx a0)[j.toNat]?=some [u8 x]:=by rw[hj,k0u];exact W6 hxa
     have hbp:(x9 B)[0+j.toNat]?=some [bP b]:=by rw[hj,k0u,Nat.zero_add];exact Y3 hxb
     have hml:=X2 (B:=B) a0 hBc (k:=k) (by omega)
     have w:=wadd (Q5 a0 B c k) b x hml hlb
     rw[hml,← hst]at w
     refine w9 ⟨⟨65,[(0,.p (.sl 1 (x9 [a0,a1,a2]))),(1,.msl 0 1 0 q),(6,.p (.box F)),(7,.msl 1 1 0 3),(37,.p (.sl 1 (x9 [a0,a1,a2]))),(38,i64 3),(8,i64 0),(39,i64 0),(44,bA a0),(45,i64 (bx a0).length),(46,i64 j)]⟩,[.row y7 1 (x9 B),.cells y7 [.msl 2 1 0 c,.msl 3 1 0 c,.msl 4 1 0 c],.row y9 1 (bx (Q5 a0 B c (k+1))),.row y9 1 (bx (Q5 a1 B c 0)),.row y9 1 (bx (Q5 a2 B c 0))]⟩ True (y8 (z7 hT ?_)) (fun _=>?_)
     ·refine⟨by omega,Z1 hxp ?_⟩
      refine Q9 [10] [] hT u5 (by rfl) ?_
      refine⟨by decide,?_⟩
      refine⟨⟨by omega,by omega⟩,?_⟩
      refine Z1 hbp ?_
      refine⟨_,_,Z7 [2] w rfl rfl rfl,?_⟩
      repeat first|refine⟨rfl,?_⟩|refine⟨⟨by decide,rfl⟩,?_⟩|refine⟨⟨⟨by omega,by omega⟩,rfl⟩,?_⟩|refine⟨Z1 hbp rfl,?_⟩
      exact⟨z6 [0,1,2,3,4] [0,1,6,7,37,38,8,39,44,45,46] rfl,trivial⟩
     ·refine z8 hT ?_
      exact⟨n2 - 1,by omega,_,z6 [0,1,2,3,4] [0,1,6,7,37,38,8,39,44,45,46] rfl,k+1,IntKind.i64.wrap (j+1),by omega,by rw[Q0 _ (by omega) (by omega)];omega,rfl⟩
    ·have h:=k0y (show decide (j<(((bx a0).length:Nat):Int))=false from h)
     rw[show k=q by omega]
     refine Q6 ?_
     exact⟨z6 [0,1,2,3,4] [0,1,6,7,37,38,8,39] rfl,trivial⟩
   ·refine z8 hT ?_
    exact⟨2,by decide,_,z6 [0,1,2,3,4] [0,1,6,7,37,38,39] rfl,(.inr (.inl ⟨rfl,rfl⟩))⟩
  ·refine z7 hT ?_
   refine u6 (y6 ?_)
   refine x6 ?_
   refine w9 ⟨⟨65,[(0,.p (.sl 1 (x9 [a0,a1,a2]))),(1,.msl 0 1 0 q),(6,.p (.box F)),(7,.msl 1 1 0 3),(37,.p (.sl 1 (x9 [a0,a1,a2]))),(38,i64 3),(8,i64 1),(39,i64 1)]⟩,[.row y7 1 (x9 B),.cells y7 [.msl 2 1 0 c,.msl 3 1 0 c,.msl 4 1 0 c],.row y9 1 (bx (Q5 a0 B c q)),.row y9 1 (bx (Q5 a1 B c q)),.row y9 1 (bx (Q5 a2 B c 0))]⟩ True (y8 ?_) (fun _=>?_)
   ·refine z7 hT ?_
    refine⟨by decide,Z1 rfl ?_⟩
    refine z7 hT ?_
    refine y8 ?_
    refine Q2 (fun n s=>∃ (k:Nat) (j:Int),n+k=q∧j=k∧s=⟨⟨65,[(0,.p (.sl 1 (x9 [a0,a1,a2]))),(1,.msl 0 1 0 q),(6,.p (.box F)),(7,.msl 1 1 0 3),(37,.p (.sl 1 (x9 [a0,a1,a2]))),(38,i64 3),(8,i64 1),(39,i64 1),(44,bA a1),(45,i64 (bx a1).length),(46,i64 j)]⟩,[.row y7 1 (x9 B),.cells y7 [.msl 2 1 0 c,.msl 3 1 0 c,.msl 4 1 0 c],.row y9 1 (bx (Q5 a0 B c q)),.row y9 1 (bx (Q5 a1 B c k)),.row y9 1 (bx (Q5 a2 B c 0))]⟩) q ⟨⟨65,_⟩,_⟩ (z6 [0,1,2,3,4] [0,1,6,7,37,38,8,39,44,45,46] rfl) ⟨0,0,by omega,rfl,rfl⟩ ?_
    rintro n2 s ⟨k,j,hnk,hj,rfl⟩
    refine z7 hT ?_
    refine u6 (y6 (u7 (fun h=>?_) (fun h=>?_)))
    ·have h:=k0z (show decide (j<(((bx a1).length:Nat):Int))=true from h)
     have hk:k<a1.length:=by omega
     have hkB:k<B.length:=by omega
     refine x6 ?_
     have hxa:=k0w hk
     have hxb:=k0w hkB
     have hst:=U2 c hxa hxb
     have hlb:=hBc _ (k1w hkB)
     generalize a1[k]=x at hxa hst
     generalize B[k]=b at hxb hst hlb
     have hxp:(bx a1)[j.toNat]?=some [u8 x]:=by rw[hj,k0u];exact W6 hxa
     have hbp:(x9 B)[0+j.toNat]?=some [bP b]:=by rw[hj,k0u,Nat.zero_add];exact Y3 hxb
     have hml:=X2 (B:=B) a1 hBc (k:=k) (by omega)
     have w:=wadd (Q5 a1 B c k) b x hml hlb
     rw[hml,← hst]at w
     refine w9 ⟨⟨65,[(0,.p (.sl 1 (x9 [a0,a1,a2]))),(1,.msl 0 1 0 q),(6,.p (.box F)),(7,.msl 1 1 0 3),(37,.p (.sl 1 (x9 [a0,a1,a2]))),(38,i64 3),(8,i64 1),(39,i64 1),(44,bA a1),(45,i64 (bx a1).length),(46,i64 j)]⟩,[.row y7 1 (x9 B),.cells y7 [.msl 2 1 0 c,.msl 3 1 0 c,.msl 4 1 0 c],.row y9 1 (bx (Q5 a0 B c q)),.row y9 1 (bx (Q5 a1 B c (k+1))),.row y9 1 (bx (Q5 a2 B c 0))]⟩ True (y8 (z7 hT ?_)) (fun _=>?_)
     ·refine⟨by omega,Z1 hxp ?_⟩
      refine Q9 [10] [] hT u5 (by rfl) ?_
      refine⟨by decide,?_⟩
      refine⟨⟨by omega,by omega⟩,?_⟩
      refine Z1 hbp ?_
      refine⟨_,_,Z7 [3] w rfl rfl rfl,?_⟩
      repeat first|refine⟨rfl,?_⟩|refine⟨⟨by decide,rfl⟩,?_⟩|refine⟨⟨⟨by omega,by omega⟩,rfl⟩,?_⟩|refine⟨Z1 hbp rfl,?_⟩
      exact⟨z6 [0,1,2,3,4] [0,1,6,7,37,38,8,39,44,45,46] rfl,trivial⟩
     ·refine z8 hT ?_
      exact⟨n2 - 1,by omega,_,z6 [0,1,2,3,4] [0,1,6,7,37,38,8,39,44,45,46] rfl,k+1,IntKind.i64.wrap (j+1),by omega,by rw[Q0 _ (by omega) (by omega)];omega,rfl⟩
    ·have h:=k0y (show decide (j<(((bx a1).length:Nat):Int))=false from h)
     rw[show k=q by omega]
     refine Q6 ?_
     exact⟨z6 [0,1,2,3,4] [0,1,6,7,37,38,8,39] rfl,trivial⟩
   ·refine z8 hT ?_
    exact⟨1,by decide,_,z6 [0,1,2,3,4] [0,1,6,7,37,38,39] rfl,(.inr (.inr (.inl ⟨rfl,rfl⟩)))⟩
  ·refine z7 hT ?_
   refine u6 (y6 ?_)
   refine x6 ?_
   refine w9 ⟨⟨65,[(0,.p (.sl 1 (x9 [a0,a1,a2]))),(1,.msl 0 1 0 q),(6,.p (.box F)),(7,.msl 1 1 0 3),(37,.p (.sl 1 (x9 [a0,a1,a2]))),(38,i64 3),(8,i64 2),(39,i64 2)]⟩,[.row y7 1 (x9 B),.cells y7 [.msl 2 1 0 c,.msl 3 1 0 c,.msl 4 1 0 c],.row y9 1 (bx (Q5 a0 B c q)),.row y9 1 (bx (Q5 a1 B c q)),.row y9 1 (bx (Q5 a2 B c q))]⟩ True (y8 ?_) (fun _=>?_)
   ·refine z7 hT ?_
    refine⟨by decide,Z1 rfl ?_⟩
    refine z7 hT ?_
    refine y8 ?_
    refine Q2 (fun n s=>∃ (k:Nat) (j:Int),n+k=q∧j=k∧s=⟨⟨65,[(0,.p (.sl 1 (x9 [a0,a1,a2]))),(1,.msl 0 1 0 q),(6,.p (.box F)),(7,.msl 1 1 0 3),(37,.p (.sl 1 (x9 [a0,a1,a2]))),(38,i64 3),(8,i64 2),(39,i64 2),(44,bA a2),(45,i64 (bx a2).length),(46,i64 j)]⟩,[.row y7 1 (x9 B),.cells y7 [.msl 2 1 0 c,.msl 3 1 0 c,.msl 4 1 0 c],.row y9 1 (bx (Q5 a0 B c q)),.row y9 1 (bx (Q5 a1 B c q)),.row y9 1 (bx (Q5 a2 B c k))]⟩) q ⟨⟨65,_⟩,_⟩ (z6 [0,1,2,3,4] [0,1,6,7,37,38,8,39,44,45,46] rfl) ⟨0,0,by omega,rfl,rfl⟩ ?_
    rintro n2 s ⟨k,j,hnk,hj,rfl⟩
    refine z7 hT ?_
    refine u6 (y6 (u7 (fun h=>?_) (fun h=>?_)))
    ·have h:=k0z (show decide (j<(((bx a2).length:Nat):Int))=true from h)
     have hk:k<a2.length:=by omega
     have hkB:k<B.length:=by omega
     refine x6 ?_
     have hxa:=k0w hk
     have hxb:=k0w hkB
     have hst:=U2 c hxa hxb
     have hlb:=hBc _ (k1w hkB)
     generalize a2[k]=x at hxa hst
     generalize B[k]=b at hxb hst hlb
     have hxp:(bx a2)[j.toNat]?=some [u8 x]:=by rw[hj,k0u];exact W6 hxa
     have hbp:(x9 B)[0+j.toNat]?=some [bP b]:=by rw[hj,k0u,Nat.zero_add];exact Y3 hxb
     have hml:=X2 (B:=B) a2 hBc (k:=k) (by omega)
     have w:=wadd (Q5 a2 B c k) b x hml hlb
     rw[hml,← hst]at w
     refine w9 ⟨⟨65,[(0,.p (.sl 1 (x9 [a0,a1,a2]))),(1,.msl 0 1 0 q),(6,.p (.box F)),(7,.msl 1 1 0 3),(37,.p (.sl 1 (x9 [a0,a1,a2]))),(38,i64 3),(8,i64 2),(39,i64 2),(44,bA a2),(45,i64 (bx a2).length),(46,i64 j)]⟩,[.row y7 1 (x9 B),.cells y7 [.msl 2 1 0 c,.msl 3 1 0 c,.msl 4 1 0 c],.row y9 1 (bx (Q5 a0 B c q)),.row y9 1 (bx (Q5 a1 B c q)),.row y9 1 (bx (Q5 a2 B c (k+1)))]⟩ True (y8 (z7 hT ?_)) (fun _=>?_)
     ·refine⟨by omega,Z1 hxp ?_⟩
      refine Q9 [10] [] hT u5 (by rfl) ?_
      refine⟨by decide,?_⟩
      refine⟨⟨by omega,by omega⟩,?_⟩
      refine Z1 hbp ?_
      refine⟨_,_,Z7 [4] w rfl rfl rfl,?_⟩
      repeat first|refine⟨rfl,?_⟩|refine⟨⟨by decide,rfl⟩,?_⟩|refine⟨⟨⟨by omega,by omega⟩,rfl⟩,?_⟩|refine⟨Z1 hbp rfl,?_⟩
      exact⟨z6 [0,1,2,3,4] [0,1,6,7,37,38,8,39,44,45,46] rfl,trivial⟩
     ·refine z8 hT ?_
      exact⟨n2 - 1,by omega,_,z6 [0,1,2,3,4] [0,1,6,7,37,38,8,39,44,45,46] rfl,k+1,IntKind.i64.wrap (j+1),by omega,by rw[Q0 _ (by omega) (by omega)];omega,rfl⟩
    ·have h:=k0y (show decide (j<(((bx a2).length:Nat):Int))=false from h)
     rw[show k=q by omega]
     refine Q6 ?_
     exact⟨z6 [0,1,2,3,4] [0,1,6,7,37,38,8,39] rfl,trivial⟩
   ·refine z8 hT ?_
    exact⟨0,by decide,_,z6 [0,1,2,3,4] [0,1,6,7,37,38,39] rfl,(.inr (.inr (.inr ⟨rfl,rfl⟩)))⟩
  ·refine z7 hT ?_
   refine u6 (y6 ?_)
   refine Q6 ?_
   exact⟨z6 [0,1,2,3,4] [7] rfl,trivial⟩
 refine Z2 (q0b 2 1 0 c rfl rfl rfl (by rw[Z0,hmk0])) ?_
 refine Z2 (q0b 3 1 1 c rfl rfl rfl (by rw[Z0,hmk1])) ?_
 refine Z2 (q0b 4 1 2 c rfl rfl rfl (by rw[Z0,hmk2])) ?_
 refine Z2 (q2m 1 [bP (Q5 a0 B c q),bP (Q5 a1 B c q),bP (Q5 a2 B c q)] rfl rfl (show 3≤140737488355328 by decide)) ?_
 refine Z2 (q1g 7 1 _ rfl rfl rfl rfl) ?_
 refine z7 hT ?_
 refine u0 ?_
 exact x7 [0] ⟨rfl,rfl⟩ rfl
theorem v0r (a0 a1 a2 a3:x8)(B:List x8)(q c:Nat)(q1:1≤q)(q2:q≤64)(c1:1≤c)(c2:c≤4096)(hA:∀ s∈([a0,a1,a2,a3]:List x8),s.length=q)(hB:B.length=q)(hBc:∀ s∈B,s.length=c) :
 AFm k0q 1 q0r [.p (.sl 1 (x9 [a0,a1,a2,a3])),.msl 0 1 0 q] [.row y7 1 (x9 B)] (Q8 (.tup [.p (.sl 1 (x9 [Q5 a0 B c q,Q5 a1 B c q,Q5 a2 B c q,Q5 a3 B c q])),i64 0]) [.row y7 1 (x9 B)]):=by
 have wA:=q0i [a0,a1,a2,a3] q (show 1≤4 by decide) (show 4≤64 by decide) q1 (by omega) hA
 have wB:=q0i B c (by omega) (by omega) c1 c2 hBc
 have wn:=q4r
 have hcl:=Y4 B
 have h0:=k0w (show 0<B.length by omega)
 have hc0:=hBc _ (k1w (show 0<B.length by omega))
 generalize B[0]=b0 at h0 hc0
 have hx0:(x9 B)[0+(0:Int).toNat]?=some [bP b0]:=Y3 h0
 have hb0:=Z0 b0
 have wf:=z4p q1m (bx b0).length (by omega) (fun _ _=>0) (fun i k _ _=>q4v i k)
 have ha0:a0.length=q:=hA a0 (by simp)
 have hx10:=Z0 a0
 have ha1:a1.length=q:=hA a1 (by simp)
 have hx11:=Z0 a1
 have ha2:a2.length=q:=hA a2 (by simp)
 have hx12:=Z0 a2
 have ha3:a3.length=q:=hA a3 (by simp)
 have hx13:=Z0 a3
 have hmk0:=X2 (B:=B) a0 hBc (k:=q) (by omega)
 have hmk1:=X2 (B:=B) a1 hBc (k:=q) (by omega)
 have hmk2:=X2 (B:=B) a2 hBc (k:=q) (by omega)
 have hmk3:=X2 (B:=B) a3 hBc (k:=q) (by omega)
 have wadd:=fun(to row:x8) (x:UInt8) (ht:to.length=c) (hr:row.length=c)=>q7d to row x (by omega) (by omega)
 unfold q3x at wn wadd
 generalize fP=F at wn wadd
 refine Z5 1 hT Tryz.func164 rfl rfl Tryz.ntmps164 rfl rfl ?_
 refine z7 hT ?_
 have lend:=z5p wB 0 (H:=[.row y7 1 (x9 B)]) (args:=[.msl 0 1 0 q]) (t:=y7) (sz:=1) (xs:=x9 B) rfl ⟨.inr (.inl ⟨congrArg (AV.msl 0 1 0) (show q=(x9 B).length by omega),rfl⟩),trivial⟩ rfl (fun k hk=>by simp at hk)
 refine w9 ⟨⟨65,[(0,.p (.sl 1 (x9 [a0,a1,a2,a3]))),(1,.msl 0 1 0 q)]⟩,[.row y7 1 (x9 B)]⟩ True (z7 hT ?_) (fun _=>?_)
 ·refine Q1 (Q4 wA _ rfl rfl) ?_
  refine Q1 lend ?_
  refine⟨by decide,Z1 rfl ?_⟩
  refine y6 (u7 (fun h=>?_) (fun h=>?_))
  ·have h:((((bx a0).length:Nat):Int) != ((q:Nat):Int))=true:=h
   rw[bne_iff_ne]at h
   omega
  exact x6 ⟨z6 [0] [0,1] rfl,trivial⟩
 refine z7 hT ?_
 refine Q1 (Q4 wn _ rfl rfl) ?_
 refine Q3 (fun st=>∃ c',c'=c∧st=⟨⟨65,[(0,.p (.sl 1 (x9 [a0,a1,a2,a3]))),(1,.msl 0 1 0 q),(6,.p (.box F)),(7,.msl 1 1 0 4)]⟩,[.row y7 1 (x9 B),.cells y7 [.msl 2 1 0 c',.msl 3 1 0 c',.msl 4 1 0 c',.msl 5 1 0 c'],.row y9 1 (bx (Z4 (fun _ _=>0) c' 0)),.row y9 1 (bx (Z4 (fun _ _=>0) c' 1)),.row y9 1 (bx (Z4 (fun _ _=>0) c' 2)),.row y9 1 (bx (Z4 (fun _ _=>0) c' 3))]⟩) (z8 hT ?_) ?_
 ·refine⟨⟨by decide,by omega⟩,?_⟩
  refine Z1 hx0 ?_
  refine Q1 (q1k wf _ rfl) ?_
  exact⟨_,z6 [0,1,2,3,4,5] [0,1,6,7] rfl,_,hb0.trans hc0,rfl⟩
 rintro _ ⟨c,rfl,rfl⟩
 clear wf
 refine w9 ⟨⟨65,[(7,.msl 1 1 0 4)]⟩,[.row y7 1 (x9 B),.cells y7 [.msl 2 1 0 c,.msl 3 1 0 c,.msl 4 1 0 c,.msl 5 1 0 c],.row y9 1 (bx (Q5 a0 B c q)),.row y9 1 (bx (Q5 a1 B c q)),.row y9 1 (bx (Q5 a2 B c q)),.row y9 1 (bx (Q5 a3 B c q))]⟩ True (z7 hT ?_) (fun _=>?_)
 ·refine y8 ?_
  refine Q2 (fun n s=>(n=4∧s=⟨⟨65,[(0,.p (.sl 1 (x9 [a0,a1,a2,a3]))),(1,.msl 0 1 0 q),(6,.p (.box F)),(7,.msl 1 1 0 4),(37,.p (.sl 1 (x9 [a0,a1,a2,a3]))),(38,i64 4),(39,i64 0)]⟩,[.row y7 1 (x9 B),.cells y7 [.msl 2 1 0 c,.msl 3 1 0 c,.msl 4 1 0 c,.msl 5 1 0 c],.row y9 1 (bx (Q5 a0 B c 0)),.row y9 1 (bx (Q5 a1 B c 0)),.row y9 1 (bx (Q5 a2 B c 0)),.row y9 1 (bx (Q5 a3 B c 0))]⟩)∨(n=3∧s=⟨⟨65,[(0,.p (.sl 1 (x9 [a0,a1,a2,a3]))),(1,.msl 0 1 0 q),(6,.p (.box F)),(7,.msl 1 1 0 4),(37,.p (.sl 1 (x9 [a0,a1,a2,a3]))),(38,i64 4),(39,i64 1)]⟩,[.row y7 1 (x9 B),.cells y7 [.msl 2 1 0 c,.msl 3 1 0 c,.msl 4 1 0 c,.msl 5 1 0 c],.row y9 1 (bx (Q5 a0 B c q)),.row y9 1 (bx (Q5 a1 B c 0)),.row y9 1 (bx (Q5 a2 B c 0)),.row y9 1 (bx (Q5 a3 B c 0))]⟩)∨(n=2∧s=⟨⟨65,[(0,.p (.sl 1 (x9 [a0,a1,a2,a3]))),(1,.msl 0 1 0 q),(6,.p (.box F)),(7,.msl 1 1 0 4),(37,.p (.sl 1 (x9 [a0,a1,a2,a3]))),(38,i64 4),(39,i64 2)]⟩,[.row y7 1 (x9 B),.cells y7 [.msl 2 1 0 c,.msl 3 1 0 c,.msl 4 1 0 c,.msl 5 1 0 c],.row y9 1 (bx (Q5 a0 B c q)),.row y9 1 (bx (Q5 a1 B c q)),.row y9 1 (bx (Q5 a2 B c 0)),.row y9 1 (bx (Q5 a3 B c 0))]⟩)∨(n=1∧s=⟨⟨65,[(0,.p (.sl 1 (x9 [a0,a1,a2,a3]))),(1,.msl 0 1 0 q),(6,.p (.box F)),(7,.msl 1 1 0 4),(37,.p (.sl 1 (x9 [a0,a1,a2,a3]))),(38,i64 4),(39,i64 3)]⟩,[.row y7 1 (x9 B),.cells y7 [.msl 2 1 0 c,.msl 3 1 0 c,.msl 4 1 0 c,.msl 5 1 0 c],.row y9 1 (bx (Q5 a0 B c q)),.row y9 1 (bx (Q5 a1 B c q)),.row y9 1 (bx (Q5 a2 B c q)),.row y9 1 (bx (Q5 a3 B c 0))]⟩)∨(n=0∧s=⟨⟨65,[(0,.p (.sl 1 (x9 [a0,a1,a2,a3]))),(1,.msl 0 1 0 q),(6,.p (.box F)),(7,.msl 1 1 0 4),(37,.p (.sl 1 (x9 [a0,a1,a2,a3]))),(38,i64 4),(39,i64 4)]⟩,[.row y7 1 (x9 B),.cells y7 [.msl 2 1 0 c,.msl 3 1 0 c,.msl 4 1 0 c,.msl 5 1 0 c],.row y9 1 (bx (Q5 a0 B c q)),.row y9 1 (bx (Q5 a1 B c q)),.row y9 1 (bx (Q5 a2 B c q)),.row y9 1 (bx (Q5 a3 B c q))]⟩)) 4 ⟨⟨65,_⟩,_⟩ (z6 [0,1,2,3,4,5] [0,1,6,7,37,38,39] rfl) (.inl ⟨rfl,by rw[q4w a0 B c 0,q4w a1 B c 1,q4w a2 B c 2,q4w a3 B c 3];rfl⟩) ?_
  rintro n s (⟨rfl,rfl⟩|⟨rfl,rfl⟩|⟨rfl,rfl⟩|⟨rfl,rfl⟩|⟨rfl,rfl⟩)
  ·refine z7 hT ?_
   refine u6 (y6 ?_)
   refine x6 ?_
   refine w9 ⟨⟨65,[(0,.p (.sl 1 (x9 [a0,a1,a2,a3]))),(1,.msl 0 1 0 q),(6,.p (.box F)),(7,.msl 1 1 0 4),(37,.p (.sl 1 (x9 [a0,a1,a2,a3]))),(38,i64 4),(8,i64 0),(39,i64 0)]⟩,[.row y7 1 (x9 B),.cells y7 [.msl 2 1 0 c,.msl 3 1 0 c,.msl 4 1 0 c,.msl 5 1 0 c],.row y9 1 (bx (Q5 a0 B c q)),.row y9 1 (bx (Q5 a1 B c 0)),.row y9 1 (bx (Q5 a2 B c 0)),.row y9 1 (bx (Q5 a3 B c 0))]⟩ True (y8 ?_) (fun _=>?_)
   ·refine z7 hT ?_
    refine⟨by decide,Z1 rfl ?_⟩
    refine z7 hT ?_
    refine y8 ?_
    refine Q2 (fun n s=>∃ (k:Nat) (j:Int),n+k=q∧j=k∧s=⟨⟨65,[(0,.p (.sl 1 (x9 [a0,a1,a2,a3]))),(1,.msl 0 1 0 q),(6,.p (.box F)),(7,.msl 1 1 0 4),(37,.p (.sl 1 (x9 [a0,a1,a2,a3]))),(38,i64 4),(8,i64 0),(39,i64 0),(44,bA a0),(45,i64 (bx a0).length),(46,i64 j)]⟩,[.row y7 1 (x9 B),.cells y7 [.msl 2 1 0 c,.msl 3 1 0 c,.msl 4 1 0 c,.msl 5 1 0 c],.row y9 1 (bx (Q5 a0 B c k)),.row y9 1 (bx (Q5 a1 B c 0)),.row y9 1 (bx (Q5 a2 B c 0)),.row y9 1 (bx (Q5 a3 B c 0))]⟩) q ⟨⟨65,_⟩,_⟩ (z6 [0,1,2,3,4,5] [0,1,6,7,37,38,8,39,44,45,46] rfl) ⟨0,0,by omega,rfl,rfl⟩ ?_
    rintro n2 s ⟨k,j,hnk,hj,rfl⟩
    refine z7 hT ?_
    refine u6 (y6 (u7 (fun h=>?_) (fun h=>?_)))
    ·have h:=k0z (show decide (j<(((bx a0).length:Nat):Int))=true from h)
     have hk:k<a0.length:=by omega
     have hkB:k<B.length:=by omega
     refine x6 ?_
     have hxa:=k0w hk
     have hxb:=k0w hkB
     have hst:=U2 c hxa hxb
     have hlb:=hBc _ (k1w hkB)
     generalize a0[k]=x at hxa hst
     generalize B[k]=b at hxb hst hlb
     have hxp:(bx a0)[j.toNat]?=some [u8 x]:=by rw[hj,k0u];exact W6 hxa
     have hbp:(x9 B)[0+j.toNat]?=some [bP b]:=by rw[hj,k0u,Nat.zero_add];exact Y3 hxb
     have hml:=X2 (B:=B) a0 hBc (k:=k) (by omega)
     have w:=wadd (Q5 a0 B c k) b x hml hlb
     rw[hml,← hst]at w
     refine w9 ⟨⟨65,[(0,.p (.sl 1 (x9 [a0,a1,a2,a3]))),(1,.msl 0 1 0 q),(6,.p (.box F)),(7,.msl 1 1 0 4),(37,.p (.sl 1 (x9 [a0,a1,a2,a3]))),(38,i64 4),(8,i64 0),(39,i64 0),(44,bA a0),(45,i64 (bx a0).length),(46,i64 j)]⟩,[.row y7 1 (x9 B),.cells y7 [.msl 2 1 0 c,.msl 3 1 0 c,.msl 4 1 0 c,.msl 5 1 0 c],.row y9 1 (bx (Q5 a0 B c (k+1))),.row y9 1 (bx (Q5 a1 B c 0)),.row y9 1 (bx (Q5 a2 B c 0)),.row y9 1 (bx (Q5 a3 B c 0))]⟩ True (y8 (z7 hT ?_)) (fun _=>?_)
     ·refine⟨by omega,Z1 hxp ?_⟩
      refine Q9 [10] [] hT u5 (by rfl) ?_
      refine⟨by decide,?_⟩
      refine⟨⟨by omega,by omega⟩,?_⟩
      refine Z1 hbp ?_
      refine⟨_,_,Z7 [2] w rfl rfl rfl,?_⟩
      repeat first|refine⟨rfl,?_⟩|refine⟨⟨by decide,rfl⟩,?_⟩|refine⟨⟨⟨by omega,by omega⟩,rfl⟩,?_⟩|refine⟨Z1 hbp rfl,?_⟩
      exact⟨z6 [0,1,2,3,4,5] [0,1,6,7,37,38,8,39,44,45,46] rfl,trivial⟩
     ·refine z8 hT ?_
      exact⟨n2 - 1,by omega,_,z6 [0,1,2,3,4,5] [0,1,6,7,37,38,8,39,44,45,46] rfl,k+1,IntKind.i64.wrap (j+1),by omega,by rw[Q0 _ (by omega) (by omega)];omega,rfl⟩
    ·have h:=k0y (show decide (j<(((bx a0).length:Nat):Int))=false from h)
     rw[show k=q by omega]
     refine Q6 ?_
     exact⟨z6 [0,1,2,3,4,5] [0,1,6,7,37,38,8,39] rfl,trivial⟩
   ·refine z8 hT ?_
    exact⟨3,by decide,_,z6 [0,1,2,3,4,5] [0,1,6,7,37,38,39] rfl,(.inr (.inl ⟨rfl,rfl⟩))⟩
  ·refine z7 hT ?_
   refine u6 (y6 ?_)
   refine x6 ?_
   refine w9 ⟨⟨65,[(0,.p (.sl 1 (x9 [a0,a1,a2,a3]))),(1,.msl 0 1 0 q),(6,.p (.box F)),(7,.msl 1 1 0 4),(37,.p (.sl 1 (x9 [a0,a1,a2,a3]))),(38,i64 4),(8,i64 1),(39,i64 1)]⟩,[.row y7 1 (x9 B),.cells y7 [.msl 2 1 0 c,.msl 3 1 0 c,.msl 4 1 0 c,.msl 5 1 0 c],.row y9 1 (bx (Q5 a0 B c q)),.row y9 1 (bx (Q5 a1 B c q)),.row y9 1 (bx (Q5 a2 B c 0)),.row y9 1 (bx (Q5 a3 B c 0))]⟩ True (y8 ?_) (fun _=>?_)
   ·refine z7 hT ?_
    refine⟨by decide,Z1 rfl ?_⟩
    refine z7 hT ?_
    refine y8 ?_
    refine Q2 (fun n s=>∃ (k:Nat) (j:Int),n+k=q∧j=k∧s=⟨⟨65,[(0,.p (.sl 1 (x9 [a0,a1,a2,a3]))),(1,.msl 0 1 0 q),(6,.p (.box F)),(7,.msl 1 1 0 4),(37,.p (.sl 1 (x9 [a0,a1,a2,a3]))),(38,i64 4),(8,i64 1),(39,i64 1),(44,bA a1),(45,i64 (bx a1).length),(46,i64 j)]⟩,[.row y7 1 (x9 B),.cells y7 [.msl 2 1 0 c,.msl 3 1 0 c,.msl 4 1 0 c,.msl 5 1 0 c],.row y9 1 (bx (Q5 a0 B c q)),.row y9 1 (bx (Q5 a1 B c k)),.row y9 1 (bx (Q5 a2 B c 0)),.row y9 1 (bx (Q5 a3 B c 0))]⟩) q ⟨⟨65,_⟩,_⟩ (z6 [0,1,2,3,4,5] [0,1,6,7,37,38,8,39,44,45,46] rfl) ⟨0,0,by omega,rfl,rfl⟩ ?_
    rintro n2 s ⟨k,j,hnk,hj,rfl⟩
    refine z7 hT ?_
    refine u6 (y6 (u7 (fun h=>?_) (fun h=>?_)))
    ·have h:=k0z (show decide (j<(((bx a1).length:Nat):Int))=true from h)
     have hk:k<a1.length:=by omega
     have hkB:k<B.length:=by omega
     refine x6 ?_
     have hxa:=k0w hk
     have hxb:=k0w hkB
     have hst:=U2 c hxa hxb
     have hlb:=hBc _ (k1w hkB)
     generalize a1[k]=x at hxa hst
     generalize B[k]=b at hxb hst hlb
     have hxp:(bx a1)[j.toNat]?=some [u8 x]:=by rw[hj,k0u];exact W6 hxa
     have hbp:(x9 B)[0+j.toNat]?=some [bP b]:=by rw[hj,k0u,Nat.zero_add];exact Y3 hxb
     have hml:=X2 (B:=B) a1 hBc (k:=k) (by omega)
     have w:=wadd (Q5 a1 B c k) b x hml hlb
     rw[hml,← hst]at w
     refine w9 ⟨⟨65,[(0,.p (.sl 1 (x9 [a0,a1,a2,a3]))),(1,.msl 0 1 0 q),(6,.p (.box F)),(7,.msl 1 1 0 4),(37,.p (.sl 1 (x9 [a0,a1,a2,a3]))),(38,i64 4),(8,i64 1),(39,i64 1),(44,bA a1),(45,i64 (bx a1).length),(46,i64 j)]⟩,[.row y7 1 (x9 B),.cells y7 [.msl 2 1 0 c,.msl 3 1 0 c,.msl 4 1 0 c,.msl 5 1 0 c],.row y9 1 (bx (Q5 a0 B c q)),.row y9 1 (bx (Q5 a1 B c (k+1))),.row y9 1 (bx (Q5 a2 B c 0)),.row y9 1 (bx (Q5 a3 B c 0))]⟩ True (y8 (z7 hT ?_)) (fun _=>?_)
     ·refine⟨by omega,Z1 hxp ?_⟩
      refine Q9 [10] [] hT u5 (by rfl) ?_
      refine⟨by decide,?_⟩
      refine⟨⟨by omega,by omega⟩,?_⟩
      refine Z1 hbp ?_
      refine⟨_,_,Z7 [3] w rfl rfl rfl,?_⟩
      repeat first|refine⟨rfl,?_⟩|refine⟨⟨by decide,rfl⟩,?_⟩|refine⟨⟨⟨by omega,by omega⟩,rfl⟩,?_⟩|refine⟨Z1 hbp rfl,?_⟩
      exact⟨z6 [0,1,2,3,4,5] [0,1,6,7,37,38,8,39,44,45,46] rfl,trivial⟩
     ·refine z8 hT ?_
      exact⟨n2 - 1,by omega,_,z6 [0,1,2,3,4,5] [0,1,6,7,37,38,8,39,44,45,46] rfl,k+1,IntKind.i64.wrap (j+1),by omega,by rw[Q0 _ (by omega) (by omega)];omega,rfl⟩
    ·have h:=k0y (show decide (j<(((bx a1).length:Nat):Int))=false from h)
     rw[show k=q by omega]
     refine Q6 ?_
     exact⟨z6 [0,1,2,3,4,5] [0,1,6,7,37,38,8,39] rfl,trivial⟩
   ·refine z8 hT ?_
    exact⟨2,by decide,_,z6 [0,1,2,3,4,5] [0,1,6,7,37,38,39] rfl,(.inr (.inr (.inl ⟨rfl,rfl⟩)))⟩
  ·refine z7 hT ?_
   refine u6 (y6 ?_)
   refine x6 ?_
   refine w9 ⟨⟨65,[(0,.p (.sl 1 (x9 [a0,a1,a2,a3]))),(1,.msl 0 1 0 q),(6,.p (.box F)),(7,.msl 1 1 0 4),(37,.p (.sl 1 (x9 [a0,a1,a2,a3]))),(38,i64 4),(8,i64 2),(39,i64 2)]⟩,[.row y7 1 (x9 B),.cells y7 [.msl 2 1 0 c,.msl 3 1 0 c,.msl 4 1 0 c,.msl 5 1 0 c],.row y9 1 (bx (Q5 a0 B c q)),.row y9 1 (bx (Q5 a1 B c q)),.row y9 1 (bx (Q5 a2 B c q)),.row y9 1 (bx (Q5 a3 B c 0))]⟩ True (y8 ?_) (fun _=>?_)
   ·refine z7 hT ?_
    refine⟨by decide,Z1 rfl ?_⟩
    refine z7 hT ?_
    refine y8 ?_
    refine Q2 (fun n s=>∃ (k:Nat) (j:Int),n+k=q∧j=k∧s=⟨⟨65,[(0,.p (.sl 1 (x9 [a0,a1,a2,a3]))),(1,.msl 0 1 0 q),(6,.p (.box F)),(7,.msl 1 1 0 4),(37,.p (.sl 1 (x9 [a0,a1,a2,a3]))),(38,i64 4),(8,i64 2),(39,i64 2),(44,bA a2),(45,i64 (bx a2).length),(46,i64 j)]⟩,[.row y7 1 (x9 B),.cells y7 [.msl 2 1 0 c,.msl 3 1 0 c,.msl 4 1 0 c,.msl 5 1 0 c],.row y9 1 (bx (Q5 a0 B c q)),.row y9 1 (bx (Q5 a1 B c q)),.row y9 1 (bx (Q5 a2 B c k)),.row y9 1 (bx (Q5 a3 B c 0))]⟩) q ⟨⟨65,_⟩,_⟩ (z6 [0,1,2,3,4,5] [0,1,6,7,37,38,8,39,44,45,46] rfl) ⟨0,0,by omega,rfl,rfl⟩ ?_
    rintro n2 s ⟨k,j,hnk,hj,rfl⟩
    refine z7 hT ?_
    refine u6 (y6 (u7 (fun h=>?_) (fun h=>?_)))
    ·have h:=k0z (show decide (j<(((bx a2).length:Nat):Int))=true from h)
     have hk:k<a2.length:=by omega
     have hkB:k<B.length:=by omega
     refine x6 ?_
     have hxa:=k0w hk
     have hxb:=k0w hkB
     have hst:=U2 c hxa hxb
     have hlb:=hBc _ (k1w hkB)
     generalize a2[k]=x at hxa hst
     generalize B[k]=b at hxb hst hlb
     have hxp:(bx a2)[j.toNat]?=some [u8 x]:=by rw[hj,k0u];exact W6 hxa
     have hbp:(x9 B)[0+j.toNat]?=some [bP b]:=by rw[hj,k0u,Nat.zero_add];exact Y3 hxb
     have hml:=X2 (B:=B) a2 hBc (k:=k) (by omega)
     have w:=wadd (Q5 a2 B c k) b x hml hlb
     rw[hml,← hst]at w
     refine w9 ⟨⟨65,[(0,.p (.sl 1 (x9 [a0,a1,a2,a3]))),(1,.msl 0 1 0 q),(6,.p (.box F)),(7,.msl 1 1 0 4),(37,.p (.sl 1 (x9 [a0,a1,a2,a3]))),(38,i64 4),(8,i64 2),(39,i64 2),(44,bA a2),(45,i64 (bx a2).length),(46,i64 j)]⟩,[.row y7 1 (x9 B),.cells y7 [.msl 2 1 0 c,.msl 3 1 0 c,.msl 4 1 0 c,.msl 5 1 0 c],.row y9 1 (bx (Q5 a0 B c q)),.row y9 1 (bx (Q5 a1 B c q)),.row y9 1 (bx (Q5 a2 B c (k+1))),.row y9 1 (bx (Q5 a3 B c 0))]⟩ True (y8 (z7 hT ?_)) (fun _=>?_)
     ·refine⟨by omega,Z1 hxp ?_⟩
      refine Q9 [10] [] hT u5 (by rfl) ?_
      refine⟨by decide,?_⟩
      refine⟨⟨by omega,by omega⟩,?_⟩
      refine Z1 hbp ?_
      refine⟨_,_,Z7 [4] w rfl rfl rfl,?_⟩
      repeat first|refine⟨rfl,?_⟩|refine⟨⟨by decide,rfl⟩,?_⟩|refine⟨⟨⟨by omega,by omega⟩,rfl⟩,?_⟩|refine⟨Z1 hbp rfl,?_⟩
      exact⟨z6 [0,1,2,3,4,5] [0,1,6,7,37,38,8,39,44,45,46] rfl,trivial⟩
     ·refine z8 hT ?_
      exact⟨n2 - 1,by omega,_,z6 [0,1,2,3,4,5] [0,1,6,7,37,38,8,39,44,45,46] rfl,k+1,IntKind.i64.wrap (j+1),by omega,by rw[Q0 _ (by omega) (by omega)];omega,rfl⟩
    ·have h:=k0y (show decide (j<(((bx a2).length:Nat):Int))=false from h)
     rw[show k=q by omega]
     refine Q6 ?_
     exact⟨z6 [0,1,2,3,4,5] [0,1,6,7,37,38,8,39] rfl,trivial⟩
   ·refine z8 hT ?_
    exact⟨1,by decide,_,z6 [0,1,2,3,4,5] [0,1,6,7,37,38,39] rfl,(.inr (.inr (.inr (.inl ⟨rfl,rfl⟩))))⟩
  ·refine z7 hT ?_
   refine u6 (y6 ?_)
   refine x6 ?_
   refine w9 ⟨⟨65,[(0,.p (.sl 1 (x9 [a0,a1,a2,a3]))),(1,.msl 0 1 0 q),(6,.p (.box F)),(7,.msl 1 1 0 4),(37,.p (.sl 1 (x9 [a0,a1,a2,a3]))),(38,i64 4),(8,i64 3),(39,i64 3)]⟩,[.row y7 1 (x9 B),.cells y7 [.msl 2 1 0 c,.msl 3 1 0 c,.msl 4 1 0 c,.msl 5 1 0 c],.row y9 1 (bx (Q5 a0 B c q)),.row y9 1 (bx (Q5 a1 B c q)),.row y9 1 (bx (Q5 a2 B c q)),.row y9 1 (bx (Q5 a3 B c q))]⟩ True (y8 ?_) (fun _=>?_)
   ·refine z7 hT ?_
    refine⟨by decide,Z1 rfl ?_⟩
    refine z7 hT ?_
    refine y8 ?_
    refine Q2 (fun n s=>∃ (k:Nat) (j:Int),n+k=q∧j=k∧s=⟨⟨65,[(0,.p (.sl 1 (x9 [a0,a1,a2,a3]))),(1,.msl 0 1 0 q),(6,.p (.box F)),(7,.msl 1 1 0 4),(37,.p (.sl 1 (x9 [a0,a1,a2,a3]))),(38,i64 4),(8,i64 3),(39,i64 3),(44,bA a3),(45,i64 (bx a3).length),(46,i64 j)]⟩,[.row y7 1 (x9 B),.cells y7 [.msl 2 1 0 c,.msl 3 1 0 c,.msl 4 1 0 c,.msl 5 1 0 c],.row y9 1 (bx (Q5 a0 B c q)),.row y9 1 (bx (Q5 a1 B c q)),.row y9 1 (bx (Q5 a2 B c q)),.row y9 1 (bx (Q5 a3 B c k))]⟩) q ⟨⟨65,_⟩,_⟩ (z6 [0,1,2,3,4,5] [0,1,6,7,37,38,8,39,44,45,46] rfl) ⟨0,0,by omega,rfl,rfl⟩ ?_
    rintro n2 s ⟨k,j,hnk,hj,rfl⟩
    refine z7 hT ?_
    refine u6 (y6 (u7 (fun h=>?_) (fun h=>?_)))
    ·have h:=k0z (show decide (j<(((bx a3).length:Nat):Int))=true from h)
     have hk:k<a3.length:=by omega
     have hkB:k<B.length:=by omega
     refine x6 ?_
     have hxa:=k0w hk
     have hxb:=k0w hkB
     have hst:=U2 c hxa hxb
     have hlb:=hBc _ (k1w hkB)
     generalize a3[k]=x at hxa hst
     generalize B[k]=b at hxb hst hlb
     have hxp:(bx a3)[j.toNat]?=some [u8 x]:=by rw[hj,k0u];exact W6 hxa
     have hbp:(x9 B)[0+j.toNat]?=some [bP b]:=by rw[hj,k0u,Nat.zero_add];exact Y3 hxb
     have hml:=X2 (B:=B) a3 hBc (k:=k) (by omega)
     have w:=wadd (Q5 a3 B c k) b x hml hlb
     rw[hml,← hst]at w
     refine w9 ⟨⟨65,[(0,.p (.sl 1 (x9 [a0,a1,a2,a3]))),(1,.msl 0 1 0 q),(6,.p (.box F)),(7,.msl 1 1 0 4),(37,.p (.sl 1 (x9 [a0,a1,a2,a3]))),(38,i64 4),(8,i64 3),(39,i64 3),(44,bA a3),(45,i64 (bx a3).length),(46,i64 j)]⟩,[.row y7 1 (x9 B),.cells y7 [.msl 2 1 0 c,.msl 3 1 0 c,.msl 4 1 0 c,.msl 5 1 0 c],.row y9 1 (bx (Q5 a0 B c q)),.row y9 1 (bx (Q5 a1 B c q)),.row y9 1 (bx (Q5 a2 B c q)),.row y9 1 (bx (Q5 a3 B c (k+1)))]⟩ True (y8 (z7 hT ?_)) (fun _=>?_)
     ·refine⟨by omega,Z1 hxp ?_⟩
      refine Q9 [10] [] hT u5 (by rfl) ?_
      refine⟨by decide,?_⟩
      refine⟨⟨by omega,by omega⟩,?_⟩
      refine Z1 hbp ?_
      refine⟨_,_,Z7 [5] w rfl rfl rfl,?_⟩
      repeat first|refine⟨rfl,?_⟩|refine⟨⟨by decide,rfl⟩,?_⟩|refine⟨⟨⟨by omega,by omega⟩,rfl⟩,?_⟩|refine⟨Z1 hbp rfl,?_⟩
      exact⟨z6 [0,1,2,3,4,5] [0,1,6,7,37,38,8,39,44,45,46] rfl,trivial⟩
     ·refine z8 hT ?_
      exact⟨n2 - 1,by omega,_,z6 [0,1,2,3,4,5] [0,1,6,7,37,38,8,39,44,45,46] rfl,k+1,IntKind.i64.wrap (j+1),by omega,by rw[Q0 _ (by omega) (by omega)];omega,rfl⟩
    ·have h:=k0y (show decide (j<(((bx a3).length:Nat):Int))=false from h)
     rw[show k=q by omega]
     refine Q6 ?_
     exact⟨z6 [0,1,2,3,4,5] [0,1,6,7,37,38,8,39] rfl,trivial⟩
   ·refine z8 hT ?_
    exact⟨0,by decide,_,z6 [0,1,2,3,4,5] [0,1,6,7,37,38,39] rfl,(.inr (.inr (.inr (.inr ⟨rfl,rfl⟩))))⟩
  ·refine z7 hT ?_
   refine u6 (y6 ?_)
   refine Q6 ?_
   exact⟨z6 [0,1,2,3,4,5] [7] rfl,trivial⟩
 refine Z2 (q0b 2 1 0 c rfl rfl rfl (by rw[Z0,hmk0])) ?_
 refine Z2 (q0b 3 1 1 c rfl rfl rfl (by rw[Z0,hmk1])) ?_
 refine Z2 (q0b 4 1 2 c rfl rfl rfl (by rw[Z0,hmk2])) ?_
 refine Z2 (q0b 5 1 3 c rfl rfl rfl (by rw[Z0,hmk3])) ?_
 refine Z2 (q2m 1 [bP (Q5 a0 B c q),bP (Q5 a1 B c q),bP (Q5 a2 B c q),bP (Q5 a3 B c q)] rfl rfl (show 4≤140737488355328 by decide)) ?_
 refine Z2 (q1g 7 1 _ rfl rfl rfl rfl) ?_
 refine z7 hT ?_
 refine u0 ?_
 exact x7 [0] ⟨rfl,rfl⟩ rfl
end Go.Proofs.YtkjklhcfgbaceaaGreat.AL
/- The layer 2 (mat): of matrices of up to four rows. -/
namespace Go.Proofs.YtkjklhcfgbaceaaGreat.AL
open Go Go.Proofs
theorem v6x (k:Nat)(h1:1≤k)(h4:k≤4):AF k0q q3q [i64 k] [] (Q8 (.tup [.msl 0 1 0 k,i64 0]) [.row y7 1 (x9 ((List.range k).map (Z4 idA k)))]):=by
 have:k=1∨k=2∨k=3∨k=4:=by omega
 rcases this with rfl|rfl|rfl|rfl
 ·exact v0a
 ·exact v0b
 ·exact v0c
 ·exact v0d
theorem x9w (m c:Nat)(h1:1≤m)(h3:m≤3)(c1:1≤c)(c2:c≤64):AF k0q q5m [i64 m,i64 c] [] (Q8 (.tup [.p (.sl 1 (x9 ((List.range m).map (Z4 (q8v c) c)))),i64 0]) []):=by
 have:m=1∨m=2∨m=3:=by omega
 rcases this with rfl|rfl|rfl
 ·exact x9t c c1 c2
 ·exact x9u c c1 c2
 ·exact x9v c c1 c2
theorem v0s (A B:List x8)(q c:Nat)(h1:1≤A.length)(h4:A.length≤4)(q1:1≤q)(q2:q≤64)(c1:1≤c)(c2:c≤4096)(hA:∀ s∈A,s.length=q)(hB:B.length=q)(hBc:∀ s∈B,s.length=c) :
 AF k0q q0r [.p (.sl 1 (x9 A)),.p (.sl 1 (x9 B))] [] (Q8 (.tup [.msl 0 1 0 A.length,i64 0]) [.row y7 1 (x9 (A.map fun a=>Q5 a B c q))]):=by
 match A,h1,h4 with
 |[a0],_,_=>exact v0f a0 B q c q1 q2 c1 c2 hA hB hBc
 |[a0,a1],_,_=>exact v0h a0 a1 B q c q1 q2 c1 c2 hA hB hBc
 |[a0,a1,a2],_,_=>exact v0j a0 a1 a2 B q c q1 q2 c1 c2 hA hB hBc
 |[a0,a1,a2,a3],_,_=>exact v0m a0 a1 a2 a3 B q c q1 q2 c1 c2 hA hB hBc
 |[],h,_=>exact absurd h (by decide)
 |_ :: _ :: _ :: _ :: _ :: _,_,h=>simp at h
theorem v0t (A B:List x8)(q c:Nat)(h1:1≤A.length)(h4:A.length≤4)(q1:1≤q)(q2:q≤64)(c1:1≤c)(c2:c≤4096)(hA:∀ s∈A,s.length=q)(hB:B.length=q)(hBc:∀ s∈B,s.length=c) :
 AFm k0q 1 q0r [.p (.sl 1 (x9 A)),.msl 0 1 0 q] [.row y7 1 (x9 B)] (Q8 (.tup [.p (.sl 1 (x9 (A.map fun a=>Q5 a B c q))),i64 0]) [.row y7 1 (x9 B)]):=by
 match A,h1,h4 with
 |[a0],_,_=>exact v0n a0 B q c q1 q2 c1 c2 hA hB hBc
 |[a0,a1],_,_=>exact v0p a0 a1 B q c q1 q2 c1 c2 hA hB hBc
 |[a0,a1,a2],_,_=>exact v0q a0 a1 a2 B q c q1 q2 c1 c2 hA hB hBc
 |[a0,a1,a2,a3],_,_=>exact v0r a0 a1 a2 a3 B q c q1 q2 c1 c2 hA hB hBc
 |[],h,_=>exact absurd h (by decide)
 |_ :: _ :: _ :: _ :: _ :: _,_,h=>simp at h
def y4m (L:List x8):List x8:=(List.range L.length).map (gs L.length L L.length).2
theorem z0p {r:Nat}{L:List x8}(h:L.length=r):y4m L=(List.range r).map (gs r L r).2:=by subst h;rfl
theorem u5r (f:Nat→x8):(List.range 1).map f=[f 0]:=rfl
theorem u5s (f:Nat→x8):(List.range 2).map f=[f 0,f 1]:=rfl
theorem u5t (f:Nat→x8):(List.range 3).map f=[f 0,f 1,f 2]:=rfl
theorem u5u (f:Nat→x8):(List.range 4).map f=[f 0,f 1,f 2,f 3]:=rfl
theorem v6y (L:List x8)(h1:1≤L.length)(h4:L.length≤4)(hL:∀ s∈L,s.length=L.length)(hok:y2u L.length L=true) :
 AF k0q z0h [.p (.sl 1 (x9 L))] [] (Q8 (.tup [.p (.sl 1 (x9 (y4m L))),i64 0]) []):=by
 match L,h1,h4 with
 |[a0],_,_=>
  rw[z0p (r:=1) rfl,u5r]
  exact v6t a0 hL hok
 |[a0,a1],_,_=>
  rw[z0p (r:=2) rfl,u5s]
  exact v6u a0 a1 hL hok
 |[a0,a1,a2],_,_=>
  rw[z0p (r:=3) rfl,u5t]
  exact v6v a0 a1 a2 hL hok
 |[a0,a1,a2,a3],_,_=>
  rw[z0p (r:=4) rfl,u5u]
  exact v6w a0 a1 a2 a3 hL hok
 |[],h,_=>exact absurd h (by decide)
 |_ :: _ :: _ :: _ :: _ :: _,_,h=>simp at h
def z8f (k m:Nat):List x8:=(List.range m).map (Z4 (q8v k) k)
def q0m (k m:Nat):List x8:=(List.range k).map (Z4 idA k)++z8f k m
theorem z0q (k m:Nat):(z8f k m).length=m:=by unfold z8f;rw[k1x,k3q]
theorem y2w (k m:Nat):(q0m k m).length=k+m:=by unfold q0m;rw[k1y,k1x,k3q,z0q]
theorem y8j (A:Nat→Nat→UInt8)(c i:Nat):(Z4 A c i).length=c:=by unfold Z4;rw[k1x,k3q]
theorem x9x {k m:Nat}:∀ s∈z8f k m,s.length=k:=fun s hs=>by
 unfold z8f at hs
 rw[List.mem_map]at hs
 obtain⟨i,_,rfl⟩:=hs
 exact y8j _ _ _
theorem x2h {k m:Nat}:∀ s∈q0m k m,s.length=k:=fun s hs=>by
 unfold q0m at hs
 rw[List.mem_append]at hs
 rcases hs with hs|hs
 ·rw[List.mem_map]at hs
  obtain⟨i,_,rfl⟩:=hs
  exact y8j _ _ _
 ·exact x9x s hs
theorem q4x (l r:List x8):x9 (l++r)=x9 l++x9 r:=by simp[x9]
theorem v0u (l:List x8)(n:Nat):(x9 l).drop n=x9 (l.drop n):=by simp[x9,List.map_drop]
theorem w7i (k m:Nat)(k1:1≤k)(k4:k≤4)(m1:1≤m)(m3:m≤3):AF k0q w9c [i64 k,i64 m] [] (Q8 (.tup [.p (.sl 1 (x9 (q0m k m))),i64 0]) []):=by
 refine AF.mono (R:=fun r H'=>∃ z,z=x9 (q0m k m)∧r=.tup [.p (.sl 1 z),i64 0]∧H'=[]) ?_ (by rintro r H' ⟨z,rfl,rfl,rfl⟩;exact⟨rfl,rfl⟩)
 have wo:=v6x k k1 k4
 have wc:=x9w m k m1 m3 k1 (by omega)
 have hz:x9 ((List.range k).map (Z4 idA k))++x9 (z8f k m)=x9 (q0m k m):=by unfold q0m;rw[q4x]
 have hol:((List.range k).map (Z4 idA k)).length=k:=by rw[k1x,k3q]
 have hcl:=z0q k m
 have wc:AF k0q q5m [i64 m,i64 k] [] (Q8 (.tup [.p (.sl 1 (x9 (z8f k m))),i64 0]) []):=wc
 generalize x9 (q0m k m)=Z at hz
 generalize (List.range k).map (Z4 idA k)=O at wo hz hol
 generalize z8f k m=C at wc hz hcl
 have hocl:=Y4 O
 have hccl:=Y4 C
 refine Q7 hT Tryz.func162 rfl rfl Tryz.ntmps162 rfl ?_
 refine z7 hT ?_
 refine w9 ⟨⟨43,[(0,i64 k),(1,i64 m)]⟩,[]⟩ True (z7 hT ?_) (fun _=>?_)
 ·refine u7 (fun h=>?_) (fun h=>?_)
  ·have h:=k0z (show decide ((k:Int)<1)=true from h)
   omega
  refine u7 (fun h=>?_) (fun h=>?_)
  ·have h:=k0z (show decide ((k:Int) > 64)=true from h)
   omega
  refine y6 (u7 (fun h=>?_) (fun h=>?_))
  ·have h:=k0z (show decide ((m:Int) > IntKind.i64.wrap (64 - (k:Int)))=true from h)
   rw[Q0 _ (by omega) (by omega)]at h
   omega
  exact x6 ⟨z6 [] [0,1] rfl,trivial⟩
 refine w9 ⟨⟨43,[(0,i64 k),(1,i64 m),(6,.msl 0 1 0 k)]⟩,[.row y7 1 (x9 O)]⟩ True (z8 hT ?_) (fun _=>?_)
 ·refine Q1 wo ?_
  exact⟨z6 [0] [0,1,6] rfl,trivial⟩
 refine u6 (z7 hT ?_)
 refine y6 (u7 (fun h=>?_) (fun h=>?_))
 ·have h:((m:Int)==0)=true:=h
  rw[beq_iff_eq]at h
  omega
 refine x6 ?_
 refine z7 hT ?_
 refine Q1 (Q4 wc _ rfl rfl) ?_
 refine z7 hT ?_
 refine⟨by omega,⟨by show (((x9 O).length:Nat)+(x9 C).length)*24≤_;omega,by omega⟩,?_⟩
 refine Z2 (q1g 4 1 _ rfl rfl rfl rfl) ?_
 refine u0 ?_
 exact x7 [] ⟨_,hz,rfl,rfl⟩ rfl
def q8w (data:List x8)(m c:Nat):List x8:=(z8f data.length m).map fun a=>Q5 a data c data.length
theorem y8k (data:List x8)(m c:Nat)(k1:1≤data.length)(k4:data.length≤4)(m1:1≤m)(m3:m≤3)(c1:1≤c)(c2:c≤4096)(hc:∀ s∈data,s.length=c) :
 AFm k0q 1 x8f [.msl 0 1 0 data.length,i64 m] [.row y7 1 (x9 data)] (Q8 (.tup [.p (.sl 1 (x9 (q8w data m c))),i64 0]) [.row y7 1 (x9 data)]):=by
 obtain⟨k,hk⟩:∃ k,k=data.length:=⟨_,rfl⟩
 have wr:=w7i k m (by omega) (by omega) m1 m3
 have wm:=q0i data c k1 (by omega) c1 c2 hc
 have hdl:=Y4 data
 have lend:=z5p wm 0 (H:=[.row y7 1 (x9 data)]) (args:=[.msl 0 1 0 k]) (t:=y7) (sz:=1) (xs:=x9 data) rfl ⟨.inr (.inl ⟨congrArg (AV.msl 0 1 0) (show k=(x9 data).length by omega),rfl⟩),trivial⟩ rfl (fun k hk=>by simp at hk)
 have wx:=v0t (z8f k m) data k c (by rw[z0q];exact m1) (by rw[z0q];omega) (by omega) (by omega) c1 c2 x9x hk.symm hc
 have hE:q8w data m c=(z8f k m).map fun a=>Q5 a data c k:=by unfold q8w;rw[← hk]
 rw[← hE]at wx
 rw[← hk]
 have hrl:=y2w k m
 have hrc:=Y4 (q0m k m)
 have hsl:((x9 (q0m k m)).take (((x9 (q0m k m)).length:Nat):Int).toNat).drop ((k:Nat):Int).toNat=x9 (z8f k m):=by
  simp only[Int.toNat_natCast]
  rw[List.take_length,v0u]
  unfold q0m
  rw[List.drop_left' (by rw[k1x,k3q])]
 rw[← hsl]at wx
 generalize q8w data m c=E at wx ⊢
 generalize x9 (q0m k m)=R at wr wx hrc
 refine Z5 1 hT Tryz.func116 rfl rfl Tryz.ntmps116 rfl rfl ?_
 refine z7 hT ?_
 refine w9 ⟨⟨34,[(0,.msl 0 1 0 k),(1,i64 m),(6,.p (.sl 1 R)),(7,i64 0)]⟩,[.row y7 1 (x9 data)]⟩ True (z8 hT ?_) (fun _=>?_)
 ·refine Q1 (Q4 wr _ rfl rfl) ?_
  exact⟨z6 [0] [0,1,6,7] rfl,trivial⟩
 refine w9 ⟨⟨34,[(0,.msl 0 1 0 k),(1,i64 m),(6,.p (.sl 1 R))]⟩,[.row y7 1 (x9 data)]⟩ True (y8 (z7 hT ?_)) (fun _=>?_)
 ·refine Q1 lend ?_
  refine y6 ?_
  refine z7 hT ?_
  refine y6 (u7 (fun h=>?_) (fun h=>?_))
  ·have h:((m:Int)==0)=true:=h
   rw[beq_iff_eq]at h
   omega
  exact x6 ⟨z6 [0] [0,1,6] rfl,trivial⟩
 refine z7 hT ?_
 refine⟨⟨by omega,by omega,Int.le_refl _⟩,?_⟩
 refine Q1 (Z7 [0] wx rfl rfl rfl) ?_
 refine u0 ?_
 exact x7 [0] ⟨rfl,rfl⟩ rfl
end Go.Proofs.YtkjklhcfgbaceaaGreat.AL
namespace Go.Proofs.YtkjklhcfgbaceaaGreat.AL
open Go Go.Proofs Go.Proofs.YtkjklhcfgbaceaaGreat.AL.Crc
def rst (b:x8):Nat→x8
 |0=>b
 |i+1=>(rst b i).drop (q1f (rst b i)).2.1
def nv (b:x8)(i:Nat):Int:=((q1f (rst b i)).1:Int)
theorem w7j (b:x8):∀ i,(rst b i).length≤b.length
 |0=>k1v _
 |i+1=>by
  have:=w7j b i
  show ((rst b i).drop _).length≤_
  rw[List.length_drop];omega
end Go.Proofs.YtkjklhcfgbaceaaGreat.AL
namespace Go.Proofs.YtkjklhcfgbaceaaGreat.AL
open Go Go.Proofs
abbrev Pc.four (p:Pc):List Int:=[p.frm,p.chain,p.index,p.of_]
theorem v6z (p:Pc):pcB p=U5 p.four++z2c p.b:=by
 unfold pcB U5
 simp[List.append_assoc]
theorem q9k (vol:Int)(g:GeoV)(m:Int)(p:Pc):AF k0q q6n [i64 vol,g.av,i64 m,p.av] [] (Q8 (.tup [bA (p.sector vol g m).1,i64 (p.sector vol g m).2]) []):=by
 refine AF.mono (R:=fun r H'=>∃ z,z=p.sector vol g m∧r=.tup [bA z.1,i64 z.2]∧H'=[]) ?_ (by rintro r H' ⟨b,rfl,rfl,rfl⟩;exact⟨rfl,rfl⟩)
 have w1:=v6r p
 have w2:=q9j g
 have w3:=y2s [vol] (by simp)
 have ew:[vol].all Y9=Y9 vol:=by simp
 rw[ew]at w3
 have bad:(p.may&&(g.may&&(Y9 vol&&(!decide (m<0)&&!decide (m≥2)))))=false→(([],1):x8 × Int)=p.sector vol g m:=fun h=>by unfold Pc.sector;rw[h]
 refine Q7 hT Tryz.func91 rfl rfl Tryz.ntmps91 rfl ?_
 refine z7 hT ?_
 refine Z2 (Z3 0 g.pv rfl rfl) ?_
 refine Z2 (Z3 1 p.pv rfl rfl) ?_
 refine w9 ⟨⟨73,[(0,i64 vol),(2,i64 m),(5,.p (.box g.pv)),(7,.p (.box p.pv))]⟩,[]⟩ (p.may=true∧g.may=true∧Y9 vol=true∧0≤m∧m<2) (u6 (X5 (fun k=>Nat.beq 10 k) hT ?_)) ?_
 ·refine Q1 (Q4 w1 _ rfl rfl) ?_
  refine u7 (fun h0=>?_) (fun h0=>?_)
  ·have h0:(!p.may)=true:=h0
   refine y6 ?_
   refine z7 hT ?_
   refine Z2 (q0a 8 1 rfl) ?_
   refine u0 ?_
   exact x7 [] ⟨_,bad (by rw[(Bool.not_eq_true' _).mp h0];rfl),rfl,rfl⟩ rfl
  have h0:(!p.may)=false:=h0
  have h0:=(Bool.not_eq_false' _).mp h0
  refine Q1 (Q4 w2 _ rfl rfl) ?_
  refine u7 (fun h1=>?_) (fun h1=>?_)
  ·have h1:(!g.may)=true:=h1
   refine y6 ?_
   refine z7 hT ?_
   refine Z2 (q0a 8 1 rfl) ?_
   refine u0 ?_
   exact x7 [] ⟨_,bad (by rw[h0,(Bool.not_eq_true' _).mp h1];rfl),rfl,rfl⟩ rfl
  have h1:(!g.may)=false:=h1
  have h1:=(Bool.not_eq_false' _).mp h1
  refine⟨⟨rfl,rfl⟩,?_⟩
  refine Q1 (Q4 w3 _ rfl rfl) ?_
  refine u7 (fun h2=>?_) (fun h2=>?_)
  ·have h2:(!Y9 vol)=true:=h2
   refine y6 ?_
   refine z7 hT ?_
   refine Z2 (q0a 8 1 rfl) ?_
   refine u0 ?_
   exact x7 [] ⟨_,bad (by rw[h0,h1,(Bool.not_eq_true' _).mp h2];rfl),rfl,rfl⟩ rfl
  have h2:(!Y9 vol)=false:=h2
  have h2:=(Bool.not_eq_false' _).mp h2
  refine u7 (fun h3=>?_) (fun h3=>?_)
  ·have h3:decide (m<0)=true:=h3
   refine y6 ?_
   refine z7 hT ?_
   refine Z2 (q0a 8 1 rfl) ?_
   refine u0 ?_
   exact x7 [] ⟨_,bad (by rw[h0,h1,h2,h3];rfl),rfl,rfl⟩ rfl
  have h3:decide (m<0)=false:=h3
  refine y6 (u7 (fun h4=>?_) (fun h4=>?_))
  ·have h4:decide (m≥2)=true:=h4
   refine z7 hT ?_
   refine Z2 (q0a 8 1 rfl) ?_
   refine u0 ?_
   exact x7 [] ⟨_,bad (by rw[h0,h1,h2,h3,h4];rfl),rfl,rfl⟩ rfl
  have h4:decide (m≥2)=false:=h4
  have h3:=k0y h3
  have h4:=k0y h4
  exact x6 ⟨z6 [] [0,2,5,7] rfl,h0,h1,h2,by omega,by omega⟩
 rintro⟨hp,hg,hv,m0,m2⟩
 have e:p.sector vol g m=(p.blk vol g m).sld:=by
  unfold Pc.sector;rw[hp,hg,hv,k1s (show ¬ m<0 by omega),k1s (show ¬ m≥2 by omega)];rfl
 clear bad w1 w2 w3 ew
 obtain⟨q1,q2,q3,q4,q5,q6,q7,q8,q9,q10⟩:=p.of_may hp
 obtain⟨g1,g2,_⟩:=g.of_may hg
 have hmg:0≤m*g.w∧m*g.w≤512:=by
  have:m=0∨m=1:=by omega
  rcases this with rfl|rfl <;> omega
 have hmod0:=Int.tmod_nonneg (a:=p.seq) g.w (by omega)
 have hmod1:=Int.tmod_lt_of_pos p.seq (show 0<g.w by omega)
 have ws:=q6g (p.blk vol g m)
 rw[← e]at ws
 have wr:=y2t g m (p.seq.tmod g.w) (by omega) (by omega) (by omega) (by omega)
 have hbody:=y4z hp
 unfold Pc.blk at ws
 generalize q0j g m (p.seq.tmod g.w)=ad at ws wr
 generalize p.sector vol g m=Z at ws
 rw[v6z]at ws hbody
 have hn:∀ n∈p.four,0≤n∧n<9223372036854775808:=by
  intro n hn
  simp only[List.mem_cons,List.not_mem_nil,or_false]at hn
  rcases hn with rfl|rfl|rfl|rfl <;> omega
 have h4:p.four.length=4:=rfl
 have hpre:∀ k,(U5 (p.four.take k)).length≤214:=fun k=>by
  have:(U5 p.four).length≤214:=by rw[k1y]at hbody;omega
  have e2:U5 p.four=U5 (p.four.take k)++U5 (p.four.drop k):=by unfold U5;rw[← List.flatMap_append,List.take_append_drop]
  rw[e2,k1y]at this;omega
 generalize hF:p.four=F at ws hbody hn h4 hpre
 refine w9 ⟨⟨73,[(0,i64 vol),(2,i64 m),(5,.p (.box g.pv)),(7,.p (.box p.pv)),(10,.ref 0 0)]⟩,z8d []⟩ True (z8 hT ?_) (fun _=>?_)
 ·exact⟨Wk.trans (V0 y9 1) (Wk.trans (U0 0 [.msl 1 1 0 0] rfl ⟨.inr (.inr (.inl ⟨1,1,0,rfl,rfl⟩)),trivial⟩) (z6 [0,1] [0,2,5,7,10] rfl)),trivial⟩
 refine w9 ⟨⟨73,[(0,i64 vol),(2,i64 m),(5,.p (.box g.pv)),(7,.p (.box p.pv)),(10,.ref 0 0)]⟩,z8d (U5 F)⟩ True ?_ (fun _=>?_)
 ·refine w9 ⟨⟨73,[(0,i64 vol),(2,i64 m),(5,.p (.box g.pv)),(7,.p (.box p.pv)),(10,.ref 0 0),(43,.p (.sl 1 (ix F))),(44,i64 4),(45,i64 0)]⟩,z8d []⟩ True (X5 (fun k=>Nat.beq 8 k) hT ?_) (fun _=>?_)
  ·refine⟨⟨rfl,rfl⟩,?_⟩
   rw[← hF]
   exact⟨z6 [0,1] [0,2,5,7,10,43,44,45] rfl,trivial⟩
  refine y8 ?_
  refine Q2 (fun n s=>∃ (k:Nat) (j:Int) (B:x8),n+k=4∧j=k∧B=U5 (F.take k)∧s=⟨⟨73,[(0,i64 vol),(2,i64 m),(5,.p (.box g.pv)),(7,.p (.box p.pv)),(10,.ref 0 0),(43,.p (.sl 1 (ix F))),(44,i64 4),(45,i64 j)]⟩,z8d B⟩) 4 ⟨⟨73,_⟩,_⟩ (z6 [0,1] [0,2,5,7,10,43,44,45] rfl) ⟨0,0,[],rfl,rfl,rfl,rfl⟩ ?_
  rintro n s ⟨k,j,B,hnk,rfl,hB,rfl⟩
  refine z7 hT ?_
  refine u6 (y6 (u7 (fun h=>?_) (fun h=>?_)))
  ·have hk:=k0z (show decide ((k:Int)<4)=true from h)
   have hx:=k0w (show k<F.length by omega)
   have hm:=hn _ (k1w (show k<F.length by omega))
   generalize F[k]'(by omega)=v at hx hm
   have hxp:(ix F)[((k:Nat):Int).toNat]?=some [.raw (.int .i64 v)]:=by rw[k0u];exact ixg hx
   have hBl:B.length≤214:=by rw[hB];exact hpre k
   have hsn:U5 (F.take (k+1))=B++q0f v.toNat:=by rw[k2t,hx,hB];exact z8e _ _
   have w:=w7e B v.toNat (by omega) (by omega)
   rw[show ((v.toNat:Nat):Int)=v by omega]at w
   generalize B++q0f v.toNat=B' at w hsn
   refine x6 ?_
   refine w9 ⟨⟨73,[(0,i64 vol),(2,i64 m),(5,.p (.box g.pv)),(7,.p (.box p.pv)),(10,.ref 0 0),(43,.p (.sl 1 (ix F))),(44,i64 4),(45,i64 k)]⟩,z8d B'⟩ True (y8 (z7 hT ?_)) (fun _=>?_)
   ·refine⟨k2w _,Z1 hxp ?_⟩
    refine z8 hT ?_
    refine Q1 (Z7 [0,1] w rfl rfl rfl) ?_
    exact⟨z6 [0,2] [0,2,5,7,10,43,44,45] rfl,trivial⟩
   ·refine z8 hT ?_
    refine⟨n - 1,by omega,_,z6 [0,1] [0,2,5,7,10,43,44,45] rfl,k+1,IntKind.i64.wrap ((k:Int)+1),B',by omega,?_,hsn.symm,rfl⟩
    rw[Q0 _ (by omega) (by omega)];rfl
  ·have hk:¬ (k:Int)<4:=k0y h
   rw[List.take_of_length_le (by omega)]at hB
   rw[← hB]
   refine Q6 ?_
   exact⟨z6 [0,1] [0,2,5,7,10] rfl,trivial⟩
 have wb:=w9x (U5 F) p.b (by have:=hpre 4;rw[List.take_of_length_le (by omega)]at this;omega) (by omega)
 have wa:=w7f (U5 F++z2c p.b) (by omega)
 generalize U5 F++z2c p.b=B at wb wa ws
 refine w9 ⟨⟨73,[(0,i64 vol),(2,i64 m),(5,.p (.box g.pv)),(7,.p (.box p.pv)),(10,.ref 0 0)]⟩,z8d B⟩ True (z8 hT ?_) (fun _=>?_)
 ·refine Q1 (Z7 [0,1] wb rfl rfl rfl) ?_
  exact⟨z6 [0,2] [0,2,5,7,10] rfl,trivial⟩
 refine u6 ?_
 refine Q9 [] [] hT u5 (by rfl) ?_
 refine neI (y:=g.w) (by omega) ?_
 refine⟨_,Q4 wr _ rfl rfl,?_⟩
 refine⟨_,Z7 [0,1] wa rfl rfl rfl,?_⟩
 refine⟨_,Q4 ws _ rfl rfl,?_⟩
 refine u0 ?_
 exact x7 [] ⟨Z,rfl,rfl,rfl⟩ rfl
end Go.Proofs.YtkjklhcfgbaceaaGreat.AL
namespace Go.Proofs.YtkjklhcfgbaceaaGreat.AL
open Go Go.Proofs Go.Proofs.YtkjklhcfgbaceaaGreat.AL.Crc
def Pc.zero:Pc:=⟨0,0,0,0,0,0,[]⟩
def y2x (B:Blk):Pc:=⟨B.seq,B.epoch,nv B.body 0,nv B.body 1,nv B.body 2,nv B.body 3,(q6h (rst B.body 4)).1⟩
def q0c (s:x8)(vol:Int)(g:GeoV)(m slot:Int):Pc × Bool:=match (W0 s).2 != 0||(!g.may||(W0 s).1.seq.tmod g.w != slot) with
 |true=>(Pc.zero,false)
 |false=>match ((y2x (W0 s).1).sector vol g m).2 != 0||!(s==((y2x (W0 s).1).sector vol g m).1) with
  |true=>(Pc.zero,false)
  |false=>(y2x (W0 s).1,true)
theorem v0v {g:GeoV}(hg:g.may=true){m:Int}(m0:0≤m)(m2:m<2){q:Int}(q0:0≤q):4≤q0j g m (q.tmod g.w)∧q0j g m (q.tmod g.w)<4+2*g.w∧Y9 (q0j g m (q.tmod g.w))=true:=by
 obtain⟨g1,g2,_⟩:=g.of_may hg
 have h1:=Int.tmod_nonneg (a:=q) g.w (by omega)
 have h2:=Int.tmod_lt_of_pos q (show 0<g.w by omega)
 unfold q0j Y9
 have:m=0∨m=1:=by omega
 rcases this with rfl|rfl
 ·refine⟨by omega,by omega,?_⟩
  simp only[Bool.and_eq_true,decide_eq_true_eq];omega
 ·refine⟨by omega,by omega,?_⟩
  simp only[Bool.and_eq_true,decide_eq_true_eq];omega
theorem q8r {p:Pc}{vol:Int}{g:GeoV}{m:Int}(hp:p.may=true)(hg:g.may=true)(hv:Y9 vol=true)(m0:0≤m)(m2:m<2) :
 p.sector vol g m=(J5 (p.blk vol g m).all,0)∧W0 (J5 (p.blk vol g m).all)=(p.blk vol g m,0):=by
 have hl:=y4z hp
 obtain⟨h1,h2,_⟩:=p.of_may hp
 have hn:(p.blk vol g m).nums=true:=by
  unfold Blk.nums Pc.blk
  have ha:=(v0v hg m0 m2 (q:=p.seq) h1.1).2.2
  simp only[List.all_cons,List.all_nil,Bool.and_eq_true,decide_eq_true_eq]
  have w1:Y9 p.epoch=true:=by unfold Y9;simp only[Bool.and_eq_true,decide_eq_true_eq];omega
  have w2:Y9 p.seq=true:=by unfold Y9;simp only[Bool.and_eq_true,decide_eq_true_eq];omega
  exact⟨by decide,hv,ha,w1,w2,trivial⟩
 have hb:(p.blk vol g m).body.length≤228:=by show (pcB p).length≤228;omega
 refine⟨?_,z5v hn hb⟩
 unfold Pc.sector
 rw[hp,hg,hv,k1s (show ¬ m<0 by omega),k1s (show ¬ m≥2 by omega)]
 show (p.blk vol g m).sld=_
 unfold Blk.sld
 rw[hn,k1s (show ¬ (p.blk vol g m).body.length > 228 by omega)]
theorem u0j {p:Pc}(hp:p.may=true):∀ n∈p.four,0≤n∧n<9223372036854775808:=by
 obtain⟨h1,h2,h3,h4,h5,h6,h7,h8,h9,h10⟩:=p.of_may hp
 intro n hn
 simp only[List.mem_cons,List.not_mem_nil,or_false]at hn
 rcases hn with rfl|rfl|rfl|rfl <;> omega
theorem x5p (l:List Int)(r:x8)(h:∀ n∈l,0≤n∧n<9223372036854775808):∀ i,i≤l.length→rst (U5 l++r) i=U5 (l.drop i)++r
 |0,_=>rfl
 |i+1,hi=>by
  have hm:=h _ (k1w (show i<l.length by omega))
  have hd:l.drop i=l[i] :: l.drop (i+1):=List.drop_eq_getElem_cons (by omega)
  generalize l[i]=v at hm hd
  show (rst (U5 l++r) i).drop (q1f (rst (U5 l++r) i)).2.1=_
  rw[x5p l r h i (by omega),hd]
  show ((q0f v.toNat++U5 (l.drop (i+1)))++r).drop (q1f ((q0f v.toNat++U5 (l.drop (i+1)))++r)).2.1=_
  rw[List.append_assoc,y2r _ _ (by omega)]
  exact List.drop_left
theorem y8m (l:List Int)(r:x8)(h:∀ n∈l,0≤n∧n<9223372036854775808)(i:Nat)(v:Int)(hv:l[i]?=some v):nv (U5 l++r) i=v∧(q1f (rst (U5 l++r) i)).2.2=0:=by
 have hi:=(k0t.1 hv).1
 have hd:l.drop i=l[i] :: l.drop (i+1):=List.drop_eq_getElem_cons hi
 have e:l[i]=v:=(k0t.1 hv).2
 have hm:=h _ (k1w hi)
 rw[e]at hd hm
 have e2:q1f (rst (U5 l++r) i)=(v.toNat,(q0f v.toNat).length,0):=by
  rw[x5p l r h i (by omega),hd]
  show q1f ((q0f v.toNat++U5 (l.drop (i+1)))++r)=_
  rw[List.append_assoc]
  exact y2r _ _ (by omega)
 unfold nv
 rw[e2]
 exact⟨by show ((v.toNat:Nat):Int)=v;omega,rfl⟩
theorem v7a {p:Pc}(hp:p.may=true):(nv (pcB p) 0=p.frm∧nv (pcB p) 1=p.chain∧nv (pcB p) 2=p.index∧nv (pcB p) 3=p.of_)∧q6h (rst (pcB p) 4)=(p.b,[],0)∧∀ k,k<4→(q1f (rst (pcB p) k)).2.2=0:=by
 have h:=u0j hp
 rw[v6z]
 refine⟨⟨(y8m _ _ h 0 _ rfl).1,(y8m _ _ h 1 _ rfl).1,(y8m _ _ h 2 _ rfl).1,(y8m _ _ h 3 _ rfl).1⟩,?_,fun k hk=>?_⟩
 ·rw[x5p _ _ h 4 (k1v _)]
  have:=x0m p.b [] (by have:=(p.of_may hp).2.2.2.2.2.2.2.2.2;omega)
  rw[List.append_nil]at this
  exact this
 ·exact(y8m _ _ h k _ (k0w (show k<p.four.length from hk))).2
theorem v7b {p:Pc}(hp:p.may=true)(vol:Int)(g:GeoV)(m:Int):y2x (p.blk vol g m)=p:=by
 obtain⟨⟨a,b,c,d⟩,e,_⟩:=v7a hp
 show (⟨p.seq,p.epoch,nv (pcB p) 0,nv (pcB p) 1,nv (pcB p) 2,nv (pcB p) 3,(q6h (rst (pcB p) 4)).1⟩:Pc)=p
 rw[a,b,c,d,e]
theorem y0h {p:Pc}{vol:Int}{g:GeoV}{m:Int}(hp:p.may=true)(hg:g.may=true)(hv:Y9 vol=true)(m0:0≤m)(m2:m<2):q0c (p.sector vol g m).1 vol g m (p.seq.tmod g.w)=(p,true):=by
 obtain⟨e1,e2⟩:=q8r hp hg hv m0 m2
 unfold q0c
 rw[e1]
 simp only
 rw[e2]
 simp only
 rw[v7b hp,e1,hg]
 show (match (0:Int) != 0||(!true||p.seq.tmod g.w != p.seq.tmod g.w) with
  |true=>(Pc.zero,false)
  |false=>match (0:Int) != 0||!(J5 (p.blk vol g m).all==J5 (p.blk vol g m).all) with
   |true=>(Pc.zero,false)
   |false=>(p,true):Pc × Bool)=_
 rw[beq_self_eq_true,show (p.seq.tmod g.w != p.seq.tmod g.w)=false by simp];rfl
end Go.Proofs.YtkjklhcfgbaceaaGreat.AL
namespace Go.Proofs.YtkjklhcfgbaceaaGreat.AL
open Go Go.Proofs
abbrev pcC (p:Pc):ABlk:=.cells q1r p.cv
theorem q8s (a b c d e f:Int):LessCL [i64 a,i64 b,i64 c,i64 d,i64 e,i64 f,.p (.raw (.slice none 0 0))] [i64 a,i64 b,i64 c,i64 d,i64 e,i64 f,bA []]:=⟨.inl rfl,.inl rfl,.inl rfl,.inl rfl,.inl rfl,.inl rfl,.inr (.inr (.inr ⟨1,rfl,rfl⟩)),trivial⟩
abbrev u3r (B:Blk):ABlk:=.cells q1q [i64 B.kind,i64 B.vol,i64 B.addr,i64 B.epoch,i64 B.seq,bA B.body]
def pcK (B:Blk):Nat→Pc
 |0=>⟨B.seq,B.epoch,0,0,0,0,[]⟩
 |1=>⟨B.seq,B.epoch,nv B.body 0,0,0,0,[]⟩
 |2=>⟨B.seq,B.epoch,nv B.body 0,nv B.body 1,0,0,[]⟩
 |3=>⟨B.seq,B.epoch,nv B.body 0,nv B.body 1,nv B.body 2,0,[]⟩
 |_=>⟨B.seq,B.epoch,nv B.body 0,nv B.body 1,nv B.body 2,nv B.body 3,[]⟩
theorem v0w (s:x8)(vol:Int)(g:GeoV)(m slot:Int)(hs:s.length≤1000000):AF k0q x8d [bA s,i64 vol,g.av,i64 m,i64 slot] [] (Q8 (.tup [(q0c s vol g m slot).1.av,bl (q0c s vol g m slot).2]) []):=by
 refine AF.mono (R:=fun r H'=>∃ z,z=q0c s vol g m slot∧r=.tup [z.1.av,bl z.2]∧H'=[]) ?_ (by rintro r H' ⟨b,rfl,rfl,rfl⟩;exact⟨rfl,rfl⟩)
 have wo:=z8c s hs
 have hbl:=w9y s
 have eT:q0c s vol g m slot=match (W0 s).2 != 0||(!g.may||(W0 s).1.seq.tmod g.w != slot) with
  |true=>(Pc.zero,false)
  |false=>match ((y2x (W0 s).1).sector vol g m).2 != 0||!(s==((y2x (W0 s).1).sector vol g m).1) with
   |true=>(Pc.zero,false)
   |false=>(y2x (W0 s).1,true):=rfl
 generalize q0c s vol g m slot=Z at eT
 generalize W0 s=O at wo hbl eT
 obtain⟨B,e⟩:=O
 have wo:AF k0q z9r [bA s] [] (Q8 (.tup [B.av,i64 e]) []):=wo
 have hbl:B.body.length≤s.length:=hbl
 have eT:Z=match e != 0||(!g.may||B.seq.tmod g.w != slot) with
  |true=>(Pc.zero,false)
  |false=>match ((y2x B).sector vol g m).2 != 0||!(s==((y2x B).sector vol g m).1) with
   |true=>(Pc.zero,false)
   |false=>(y2x B,true):=eT
 have wm:=q9j g
 refine Q7 hT Tryz.func89 rfl rfl Tryz.ntmps89 rfl ?_
 refine z7 hT ?_
 refine Z2 (Z3 0 g.pv rfl rfl) ?_
 refine Z2 (U0 1 _ rfl (q8s 0 0 0 0 0 0)) ?_
 refine w9 ⟨⟨92,[(0,bA s),(1,i64 vol),(3,i64 m),(4,i64 slot),(7,.p (.box g.pv)),(10,.ref 0 0),(12,.ref 1 0),(13,i64 e)]⟩,[pcC Pc.zero,u3r B]⟩ True (z8 hT ?_) (fun _=>?_)
 ·refine Q1 (Q4 wo _ rfl rfl) ?_
  exact⟨z6 [1,2] [0,1,3,4,7,10,12,13] rfl,trivial⟩
 refine w9 ⟨⟨92,[(0,bA s),(1,i64 vol),(3,i64 m),(7,.p (.box g.pv)),(10,.ref 0 0),(12,.ref 1 0)]⟩,[pcC Pc.zero,u3r B]⟩ ((e != 0||(!g.may||B.seq.tmod g.w != slot))=false) (z7 hT ?_) ?_
 ·refine u7 (fun h0=>?_) (fun h0=>?_)
  ·have h0:(e != 0)=true:=h0
   rw[h0]at eT
   refine y6 ?_
   refine z7 hT ?_
   refine Z2 (U0 0 _ rfl (q8s 0 0 0 0 0 0)) ?_
   refine u0 ?_
   exact x7 [] ⟨_,eT.symm,rfl,rfl⟩ rfl
  have h0:(e != 0)=false:=h0
  refine Q1 (Q4 wm _ rfl rfl) ?_
  refine u7 (fun h1=>?_) (fun h1=>?_)
  ·have h1:(!g.may)=true:=h1
   rw[h0,h1]at eT
   refine y6 ?_
   refine z7 hT ?_
   refine Z2 (U0 0 _ rfl (q8s 0 0 0 0 0 0)) ?_
   refine u0 ?_
   exact x7 [] ⟨_,eT.symm,rfl,rfl⟩ rfl
  have h1:(!g.may)=false:=h1
  have hg:=g.of_may ((Bool.not_eq_false' _).mp h1)
  refine neI (y:=g.w) (by omega) ?_
  refine y6 (u7 (fun h2=>?_) (fun h2=>?_))
  ·have h2:(B.seq.tmod g.w != slot)=true:=h2
   rw[h0,h1,h2]at eT
   refine z7 hT ?_
   refine Z2 (U0 0 _ rfl (q8s 0 0 0 0 0 0)) ?_
   refine u0 ?_
   exact x7 [] ⟨_,eT.symm,rfl,rfl⟩ rfl
  have h2:(B.seq.tmod g.w != slot)=false:=h2
  exact x6 ⟨z6 [0,1] [0,1,3,7,10,12] rfl,by rw[h0,h1,h2];rfl⟩
 intro hc
 rw[hc]at eT
 refine w9 ⟨⟨92,[(0,bA s),(1,i64 vol),(3,i64 m),(7,.p (.box g.pv)),(10,.ref 0 0),(12,.ref 1 0),(14,.ref 2 0)]⟩,[pcC Pc.zero,u3r B,pcC (pcK B 0)]⟩ True (z8 hT ?_) (fun _=>?_)
 ·refine⟨Wk.trans (U0 2 _ rfl (q8s B.seq B.epoch 0 0 0 0)) (z6 [0,1,2] [0,1,3,7,10,12,14] rfl),trivial⟩
 have wn:=w4f B.body (by omega)
 refine w9 ⟨⟨92,[(0,bA s),(1,i64 vol),(3,i64 m),(7,.p (.box g.pv)),(10,.ref 0 0),(14,.ref 1 0),(15,.ref 2 0)]⟩,[pcC Pc.zero,pcC (pcK B 0),inC B.body]⟩ True (z8 hT ?_) (fun _=>?_)
 ·refine Q1 (q1k wn _ rfl) ?_
  exact⟨z6 [0,2,3] [0,1,3,7,10,14,15] rfl,trivial⟩
 have rl:=w7j B.body
 refine w9 ⟨⟨92,[(0,bA s),(1,i64 vol),(3,i64 m),(7,.p (.box g.pv)),(10,.ref 0 0),(14,.ref 1 0),(15,.ref 2 0)]⟩,[pcC Pc.zero,pcC (pcK B 4),inC (rst B.body 4)]⟩ True ?_ (fun _=>?_)
 ·refine w9 ⟨⟨92,[(0,bA s),(1,i64 vol),(3,i64 m),(7,.p (.box g.pv)),(10,.ref 0 0),(14,.ref 1 0),(15,.ref 2 0),(54,.msl 3 1 0 4),(55,i64 4),(56,i64 0)]⟩,[pcC Pc.zero,pcC (pcK B 0),inC B.body,.cells z1u [.ref 1 2,.ref 1 3,.ref 1 4,.ref 1 5]]⟩ True (z8 hT ?_) (fun _=>?_)
  ·exact⟨z6 [0,1,2,3] [0,1,3,7,10,14,15,54,55,56] rfl,trivial⟩
  refine y8 ?_
  refine Q2 (fun n st=>∃ (k:Nat) (j:Int) (P:Pc) (R:x8),n+k=4∧j=k∧P=pcK B k∧R=rst B.body k∧st=⟨⟨92,[(0,bA s),(1,i64 vol),(3,i64 m),(7,.p (.box g.pv)),(10,.ref 0 0),(14,.ref 1 0),(15,.ref 2 0),(54,.msl 3 1 0 4),(55,i64 4),(56,i64 j)]⟩,[pcC Pc.zero,pcC P,inC R,.cells z1u [.ref 1 2,.ref 1 3,.ref 1 4,.ref 1 5]]⟩) 4 ⟨⟨92,_⟩,_⟩ (z6 [0,1,2,3] [0,1,3,7,10,14,15,54,55,56] rfl) ⟨0,0,_,_,rfl,rfl,rfl,rfl,rfl⟩ ?_
  rintro n st ⟨k,j,P,R,hnk,rfl,hP,hR,rfl⟩
  refine z7 hT ?_
  refine u6 (y6 (u7 (fun h=>?_) (fun h=>?_)))
  ·have hk:=k0z (show decide ((k:Int)<4)=true from h)
   have w:=u3q R (by have:=rl k;rw[hR];omega)
   have eR:rst B.body (k+1)=R.drop (q1f R).2.1:=by rw[hR];rfl
   have eV:nv B.body k=((q1f R).1:Int):=by rw[hR];rfl
   generalize q1f R=Y at w eR eV
   obtain⟨v,q,f⟩:=Y
   have w:AFm k0q 1 z7b [.ref 0 0] [inC R] (Q8 (.tup [i64 v,i64 f]) [inC (R.drop q)]):=w
   have eR:rst B.body (k+1)=R.drop q:=eR
   have eV:nv B.body k=(v:Int):=eV
   generalize R.drop q=R' at w eR
   refine x6 ?_
   refine Q3 (fun st=>∃ P',P'=pcK B (k+1)∧st=⟨⟨92,[(0,bA s),(1,i64 vol),(3,i64 m),(7,.p (.box g.pv)),(10,.ref 0 0),(14,.ref 1 0),(15,.ref 2 0),(54,.msl 3 1 0 4),(55,i64 4),(56,i64 k)]⟩,[pcC Pc.zero,pcC P',inC R',.cells z1u [.ref 1 2,.ref 1 3,.ref 1 4,.ref 1 5]]⟩) (y8 ?_) ?_
   ·have hk4:k=0∨k=1∨k=2∨k=3:=by omega
    rcases hk4 with rfl|rfl|rfl|rfl
    ·refine z7 hT ?_
     refine⟨⟨k2w _,by omega⟩,?_⟩
     refine z8 hT ?_
     refine Q1 (Z7 [2] w rfl rfl rfl) ?_
     refine⟨_,z6 [0,1,2,3] [0,1,3,7,10,14,15,54,55,56] rfl,⟨P.seq,P.epoch,(v:Int),P.chain,P.index,P.of_,P.b⟩,?_,rfl⟩
     rw[← eV,hP];rfl
    ·refine z7 hT ?_
     refine⟨⟨k2w _,by omega⟩,?_⟩
     refine z8 hT ?_
     refine Q1 (Z7 [2] w rfl rfl rfl) ?_
     refine⟨_,z6 [0,1,2,3] [0,1,3,7,10,14,15,54,55,56] rfl,⟨P.seq,P.epoch,P.frm,(v:Int),P.index,P.of_,P.b⟩,?_,rfl⟩
     rw[← eV,hP];rfl
    ·refine z7 hT ?_
     refine⟨⟨k2w _,by omega⟩,?_⟩
     refine z8 hT ?_
     refine Q1 (Z7 [2] w rfl rfl rfl) ?_
     refine⟨_,z6 [0,1,2,3] [0,1,3,7,10,14,15,54,55,56] rfl,⟨P.seq,P.epoch,P.frm,P.chain,(v:Int),P.of_,P.b⟩,?_,rfl⟩
     rw[← eV,hP];rfl
    ·refine z7 hT ?_
     refine⟨⟨k2w _,by omega⟩,?_⟩
     refine z8 hT ?_
     refine Q1 (Z7 [2] w rfl rfl rfl) ?_
     refine⟨_,z6 [0,1,2,3] [0,1,3,7,10,14,15,54,55,56] rfl,⟨P.seq,P.epoch,P.frm,P.chain,P.index,(v:Int),P.b⟩,?_,rfl⟩
     rw[← eV,hP];rfl
   ·rintro _ ⟨P',hP',rfl⟩
    refine z8 hT ?_
    refine⟨n - 1,by omega,_,z6 [0,1,2,3] [0,1,3,7,10,14,15,54,55,56] rfl,k+1,IntKind.i64.wrap ((k:Int)+1),P',R',by omega,?_,hP',eR.symm,rfl⟩
    rw[Q0 _ (by omega) (by omega)];rfl
  ·have hk:¬ (k:Int)<4:=k0y h
   have hk4:k=4:=by omega
   rw[hk4]at hP hR
   rw[← hP,← hR]
   refine Q6 ?_
   exact⟨z6 [0,1,2] [0,1,3,7,10,14,15] rfl,trivial⟩
 have wb:=v6p (rst B.body 4) (by have:=rl 4;omega)
 have eP:y2x B=⟨B.seq,B.epoch,nv B.body 0,nv B.body 1,nv B.body 2,nv B.body 3,(q6h (rst B.body 4)).1⟩:=rfl
 generalize q6h (rst B.body 4)=Y at wb eP
 obtain⟨x,y,f⟩:=Y
 have wb:AFm k0q 1 z2z [.ref 0 0] [inC (rst B.body 4)] (Q8 (.tup [bA x,i64 f]) [inC y]):=wb
 have eP:y2x B=⟨B.seq,B.epoch,nv B.body 0,nv B.body 1,nv B.body 2,nv B.body 3,x⟩:=eP
 generalize rst B.body 4=R at wb
 generalize y2x B=P at eP eT
 refine w9 ⟨⟨92,[(0,bA s),(1,i64 vol),(3,i64 m),(7,.p (.box g.pv)),(10,.ref 0 0),(14,.ref 1 0)]⟩,[pcC Pc.zero,pcC P]⟩ True (z8 hT ?_) (fun _=>?_)
 ·refine Q1 (Z7 [2] wb rfl rfl rfl) ?_
  rw[eP]
  exact⟨z6 [0,1] [0,1,3,7,10,14] rfl,trivial⟩
 have wS:=q9k vol g m P
 generalize P.sector vol g m=Y at wS eT
 obtain⟨t,f⟩:=Y
 have wS:AF k0q q6n [i64 vol,g.av,i64 m,P.av] [] (Q8 (.tup [bA t,i64 f]) []):=wS
 have eT:Z=match f != 0||!(s==t) with
  |true=>(Pc.zero,false)
  |false=>(P,true):=eT
 have wE:=q7c s t
 refine w9 ⟨⟨92,[(10,.ref 0 0),(14,.ref 1 0)]⟩,[pcC Pc.zero,pcC P]⟩ ((f != 0||!(s==t))=false) (z7 hT ?_) ?_
 ·refine Q1 (Q4 wS _ rfl rfl) ?_
  refine z7 hT ?_
  refine u7 (fun h0=>?_) (fun h0=>?_)
  ·have h0:(f != 0)=true:=h0
   rw[h0]at eT
   refine y6 ?_
   refine z7 hT ?_
   refine Z2 (U0 0 _ rfl (q8s 0 0 0 0 0 0)) ?_
   refine u0 ?_
   exact x7 [] ⟨_,eT.symm,rfl,rfl⟩ rfl
  have h0:(f != 0)=false:=h0
  refine Q1 (Q4 wE _ rfl rfl) ?_
  refine y6 (u7 (fun h1=>?_) (fun h1=>?_))
  ·have h1:(!(s==t))=true:=h1
   rw[h0,h1]at eT
   refine z7 hT ?_
   refine Z2 (U0 0 _ rfl (q8s 0 0 0 0 0 0)) ?_
   refine u0 ?_
   exact x7 [] ⟨_,eT.symm,rfl,rfl⟩ rfl
  have h1:(!(s==t))=false:=h1
  exact x6 ⟨z6 [0,1] [10,14] rfl,by rw[h0,h1];rfl⟩
 intro hc
 rw[hc]at eT
 refine z7 hT ?_
 refine u0 ?_
 exact x7 [] ⟨_,eT.symm,rfl,rfl⟩ rfl
theorem y0i {g:GeoV}(hg:g.may=true){seq:Int}(h0:0≤seq):0≤seq.tmod g.w∧seq.tmod g.w<g.w:=by
 obtain⟨g1,g2,_⟩:=g.of_may hg
 exact⟨Int.tmod_nonneg g.w h0,Int.tmod_lt_of_pos seq (by omega)⟩
def z6n (vol:Int)(g:GeoV)(p:Pc):Int:=((Crc.sum (p.sector vol g 0).1).toNat:Int)
theorem y8n (l:List x8)(s:x8):x9 (l++[s])=x9 l++[[bP s]]:=by simp[x9]
abbrev z0r (S R:List (List PV))(long:Int):ABlk:=.cells v5e [.p (.sl 1 S),.p (.sl 1 R),i64 long]
theorem x9y (S:List x8)(R:List (List PV))(long:Int)(i:Nat)(s:x8)(hs:S[i]?=some s):AFm k0q 1 z7c [.ref 0 0,i64 i] [z0r (x9 S) R long] (Q8 (bl (decide (0<s.length))) [z0r (x9 S) R long]):=by
 refine AFm.mono (R:=fun r H'=>∃ z,z=decide (0<s.length)∧r=bl z∧H'=[z0r (x9 S) R long]) ?_ (by rintro r H' ⟨z,rfl,rfl,rfl⟩;exact⟨rfl,rfl⟩)
 have hb:=Z0 s
 have hx:(x9 S)[((i:Nat):Int).toNat]?=some [bP s]:=by rw[k0u];exact Y3 hs
 refine Z5 1 hT Tryz.func174 rfl rfl Tryz.ntmps174 rfl rfl ?_
 refine z7 hT ?_
 refine z7 hT ?_
 refine⟨by omega,Z1 hx ?_⟩
 refine u0 ?_
 refine x7 [0] ⟨decide ((((bx s).length:Nat):Int) > 0),?_,rfl,rfl⟩ rfl
 rw[hb]
 by_cases h:0<s.length
 ·rw[k1t h,k1t (by omega)]
 ·rw[k1s h,k1s (by omega)]
def q9m (S:List x8)(c:Nat):Int:=match S.any (fun s=>decide (0<s.length)) with|true=>c|false=>0
theorem w4p (S:List x8)(c:Nat)(s:x8):q9m (S++[s]) c=match decide (0<s.length) with|true=>(c:Int)|false=>q9m S c:=by
 unfold q9m
 rw[List.any_append]
 cases hs:decide (0<s.length) <;> simp[hs]
theorem u0k (S:List x8)(R:List (List PV))(c:Nat)(c1:1≤c)(c2:c≤4096)(hl:S.length≤64)(hS:∀ s∈S,s.length=0∨s.length=c) :
 AFm k0q 1 x4y [.ref 0 0] [z0r (x9 S) R 0] (Q8 (bl true) [z0r (x9 S) R (q9m S c)]):=by
 refine AFm.mono (R:=fun r H'=>∃ z,z=true∧r=bl z∧H'=[z0r (x9 S) R (q9m S c)]) ?_ (by rintro r H' ⟨z,rfl,rfl,rfl⟩;exact⟨rfl,rfl⟩)
 have hcl:=Y4 S
 refine Z5 1 hT Tryz.func172 rfl rfl Tryz.ntmps172 rfl rfl ?_
 refine z7 hT ?_
 refine w9 ⟨⟨42,[(0,.ref 0 0)]⟩,[z0r (x9 S) R (q9m S c)]⟩ True (z7 hT ?_) (fun _=>?_)
 ·refine y8 ?_
  refine Q2 (fun n s=>∃ (k:Nat) (j long:Int),n+k=S.length∧j=k∧long=q9m (S.take k) c∧s=⟨⟨42,[(0,.ref 0 0),(8,.p (.sl 1 (x9 S))),(9,i64 (x9 S).length),(10,i64 j)]⟩,[z0r (x9 S) R long]⟩) S.length ⟨⟨42,_⟩,_⟩ (z6 [0] [0,8,9,10] rfl) ⟨0,0,0,rfl,rfl,rfl,rfl⟩ ?_
  rintro n s ⟨k,j,long,hnk,hj,hlong,rfl⟩
  refine z7 hT ?_
  refine u6 (y6 (u7 (fun h=>?_) (fun h=>?_)))
  ·have h:=k0z (show decide (j<(((x9 S).length:Nat):Int))=true from h)
   have hk:k<S.length:=by omega
   refine x6 ?_
   have hx:=k0w hk
   have hsl:=hS _ (k1w hk)
   generalize S[k]=x at hx hsl
   have hxp:(x9 S)[j.toNat]?=some [bP x]:=by rw[hj,k0u];exact Y3 hx
   have hbx:=Z0 x
   have hstep:q9m (S.take (k+1)) c=match decide (0<x.length) with|true=>(c:Int)|false=>q9m (S.take k) c:=by
    rw[k2t,hx];exact w4p _ _ _
   have hlc:long=0∨long=c:=by
    rw[hlong];unfold q9m;split
    ·exact .inr rfl
    ·exact .inl rfl
   rw[← hlong]at hstep
   have w:=x9y S R long k x hx
   rw[← hj]at w
   obtain⟨e,he⟩:∃ e,e=decide (0<x.length):=⟨_,rfl⟩
   rw[← he]at w hstep
   refine Q3 (fun st=>∃ long',long'=q9m (S.take (k+1)) c∧st=⟨⟨42,[(0,.ref 0 0),(8,.p (.sl 1 (x9 S))),(9,i64 (x9 S).length),(10,i64 j)]⟩,[z0r (x9 S) R long']⟩) (y8 (z7 hT ?_)) ?_
   ·refine⟨by omega,Z1 hxp ?_⟩
    refine w9 ⟨⟨42,[(0,.ref 0 0),(4,bA x),(8,.p (.sl 1 (x9 S))),(9,i64 (x9 S).length),(10,i64 j)]⟩,[z0r (x9 S) R long]⟩ (e=true) (z7 hT ?_) (fun h1=>?_)
    ·refine Q1 (Z7 [0] w rfl rfl rfl) ?_
     refine y6 (u7 (fun h=>?_) (fun h=>?_))
     ·have h:(!e)=true:=h
      rw[(Bool.not_eq_true' _).mp h]at hstep
      refine Q6 ?_
      exact⟨_,z6 [0] [0,8,9,10] rfl,long,hstep.symm,rfl⟩
     ·have h:(!e)=false:=h
      exact x6 ⟨z6 [0] [0,4,8,9,10] rfl,(Bool.not_eq_false' _).mp h⟩
    rw[h1]at he hstep
    have hxc:x.length=c:=by
     have:=k0z he.symm
     omega
    refine Q3 (fun st=>∃ v:Int,v=c∧st=⟨⟨42,[(0,.ref 0 0),(4,bA x),(8,.p (.sl 1 (x9 S))),(9,i64 (x9 S).length),(10,i64 j)]⟩,[z0r (x9 S) R v]⟩) (z7 hT ?_) ?_
    ·refine y6 (u7 (fun h=>?_) (fun h=>?_))
     ·refine z8 hT ?_
      exact⟨_,z6 [0] [0,4,8,9,10] rfl,_,(show (((bx x).length:Nat):Int)=(c:Int) by omega),rfl⟩
     ·have h:(long==0)=false:=h
      have h:=beq_eq_false_iff_ne.mp h
      exact x6 ⟨_,z6 [0] [0,4,8,9,10] rfl,long,by omega,rfl⟩
    rintro _ ⟨v,rfl,rfl⟩
    refine z7 hT ?_
    refine y6 (u7 (fun h=>?_) (fun h=>?_))
    ·have h:((((bx x).length:Nat):Int) != (c:Int))=true:=h
     rw[bne_iff_ne]at h
     omega
    ·exact x6 ⟨_,z6 [0] [0,8,9,10] rfl,_,hstep.symm,rfl⟩
   ·rintro _ ⟨long',hl',rfl⟩
    refine z8 hT ?_
    exact⟨n - 1,by omega,_,z6 [0] [0,8,9,10] rfl,k+1,IntKind.i64.wrap (j+1),long',by omega,by rw[Q0 _ (by omega) (by omega)];omega,hl',rfl⟩
  ·have h:=k0y (show decide (j<(((x9 S).length:Nat):Int))=false from h)
   rw[List.take_of_length_le (by omega)]at hlong
   rw[← hlong]
   refine Q6 ?_
   exact⟨z6 [0] [0] rfl,trivial⟩
 refine z7 hT ?_
 refine u0 ?_
 refine x7 [0] ⟨_,?_,rfl,rfl⟩ rfl
 unfold q9m
 split
 ·exact k1t (by omega)
 ·rfl
def V1 (S:List x8)(most:Nat):Nat→List Nat
 |0=>[]
 |i+1=>match decide ((V1 S most i).length<most)&&decide (0<(S.getD i []).length) with
  |true=>V1 S most i++[i]
  |false=>V1 S most i
theorem z0s (S:List x8)(most:Nat):∀ i,(V1 S most i).length≤i∧(V1 S most i).length≤most
 |0=>⟨k1v _,Nat.zero_le _⟩
 |i+1=>by
  obtain⟨a,b⟩:=z0s S most i
  unfold V1
  split
  ·rename_i h
   rw[k1u,decide_eq_true_eq]at h
   rw[k1y,List.length_singleton]
   omega
  ·omega
theorem q6i (S:List x8)(most:Nat):∀ i j,j∈V1 S most i→j<i∧0<(S.getD j []).length
 |0,j,h=>by simp[V1]at h
 |i+1,j,h=>by
  unfold V1 at h
  split at h
  ·rename_i hc
   rw[k1u,decide_eq_true_eq,decide_eq_true_eq]at hc
   rw[List.mem_append,List.mem_singleton]at h
   rcases h with h|rfl
   ·obtain⟨a,b⟩:=q6i S most i j h
    exact⟨by omega,b⟩
   ·exact⟨Nat.lt_succ_self _,hc.2⟩
  ·obtain⟨a,b⟩:=q6i S most i j h
   exact⟨by omega,b⟩
def ixN (l:List Nat):List (List PV):=l.map fun n:Nat=>([.raw (.int .i64 (n:Int))]:List PV)
theorem w7k (l:List Nat):(ixN l).length=l.length:=by simp[ixN]
theorem v7c (l:List Nat)(n:Nat):ixN (l++[n])=ixN l++[[.raw (.int .i64 (n:Int))]]:=by simp[ixN]
theorem u0m {l:List Nat}{i n:Nat}(h:l[i]?=some n):(ixN l)[i]?=some [.raw (.int .i64 (n:Int))]:=by rw[ixN,k1z,h];rfl
abbrev x9z:AV:=.mth (.func z7c) [.ref 0 0]
theorem v0x (S:List x8)(R:List (List PV))(long:Int)(most:Nat)(hl:S.length≤64)(hm:most≤64) :
 AFm k0q 1 x8m [i64 S.length,i64 most,x9z] [z0r (x9 S) R long] (Q8 (.p (.sl 1 (ixN (V1 S most S.length)))) [z0r (x9 S) R long]):=by
 have hcl:=Y4 S
 obtain⟨N,hN⟩:∃ N,N=S.length:=⟨_,rfl⟩
 rw[← hN]
 refine Z5 1 hT Tryz.func173 rfl rfl Tryz.ntmps173 rfl rfl ?_
 refine z7 hT ?_
 refine w9 ⟨⟨28,[(0,i64 N),(1,i64 most),(2,x9z),(7,.msl 1 1 0 0)]⟩,[z0r (x9 S) R long,.row W7 1 []]⟩ True (z8 hT ?_) (fun _=>?_)
 ·exact⟨Wk.trans (V0 W7 1) (Wk.trans (q4p 7 1 1 0 rfl) (z6 [0,1] [0,1,2,7] rfl)),trivial⟩
 refine Q3 (fun st=>∃ L,L=V1 S most N∧st=⟨⟨28,[(7,.msl 1 1 0 (ixN L).length)]⟩,[z0r (x9 S) R long,.row W7 1 (ixN L)]⟩) (z7 hT ?_) ?_
 ·refine y8 ?_
  refine Q2 (fun n s=>∃ (k:Nat) (j:Int) (L:List Nat),n+k=N∧j=k∧L=V1 S most k∧s=⟨⟨28,[(0,i64 N),(1,i64 most),(2,x9z),(7,.msl 1 1 0 (ixN L).length),(9,i64 N),(10,i64 j)]⟩,[z0r (x9 S) R long,.row W7 1 (ixN L)]⟩) N ⟨⟨28,_⟩,_⟩ (z6 [0,1] [0,1,2,7,9,10] rfl) ⟨0,0,[],by omega,rfl,rfl,rfl⟩ ?_
  rintro n s ⟨k,j,L,hnk,hj,hL,rfl⟩
  have hll:=z0s S most k
  rw[← hL]at hll
  have hil:=w7k L
  refine z7 hT ?_
  refine u6 (y6 (u7 (fun h=>?_) (fun h=>?_)))
  ·have h:=k0z (show decide (j<(N:Int))=true from h)
   have hk:k<S.length:=by omega
   refine x6 ?_
   have hx:=k0w hk
   have hstep:V1 S most (k+1)=match decide (L.length<most)&&decide (0<S[k].length) with|true=>L++[k]|false=>L:=by
    rw[V1,← hL,k0v,hx];rfl
   generalize S[k]=x at hx hstep
   have w:=x9y S R long k x hx
   rw[← hj]at w
   obtain⟨e,he⟩:∃ e,e=decide (0<x.length):=⟨_,rfl⟩
   rw[← he]at w hstep
   have hd:decide (L.length<most)=decide ((((ixN L).length:Nat):Int)<(most:Int)):=by
    by_cases c:L.length<most
    ·rw[k1t c,k1t (by omega)]
    ·rw[k1s c,k1s (by omega)]
   rw[hd]at hstep
   refine Q3 (fun st=>∃ L2,L2=V1 S most (k+1)∧st=⟨⟨28,[(0,i64 N),(1,i64 most),(2,x9z),(7,.msl 1 1 0 (ixN L2).length),(9,i64 N),(10,i64 j)]⟩,[z0r (x9 S) R long,.row W7 1 (ixN L2)]⟩) (y8 (z7 hT ?_)) ?_
   ·refine Q3 (fun st=>∃ b,b=(decide ((((ixN L).length:Nat):Int)<(most:Int))&&e)∧st=⟨⟨28,[(0,i64 N),(1,i64 most),(2,x9z),(7,.msl 1 1 0 (ixN L).length),(8,i64 j),(9,i64 N),(10,i64 j),(21,bl b)]⟩,[z0r (x9 S) R long,.row W7 1 (ixN L)]⟩) (z8 hT ?_) ?_
    ·refine u7 (fun h=>?_) (fun h=>?_)
     ·refine Q1 (Z7 [0] w rfl rfl rfl) ?_
      exact⟨_,z6 [0,1] [0,1,2,7,8,9,10,21] rfl,e,by rw[show decide ((((ixN L).length:Nat):Int)<(most:Int))=true from h,Bool.true_and],rfl⟩
     ·exact⟨_,z6 [0,1] [0,1,2,7,8,9,10,21] rfl,false,by rw[show decide ((((ixN L).length:Nat):Int)<(most:Int))=false from h,Bool.false_and],rfl⟩
    rintro _ ⟨b,hb,rfl⟩
    rw[← hb]at hstep
    refine y6 (u7 (fun h=>?_) (fun h=>?_))
    ·have h:b=true:=h
     rw[h]at hstep
     refine X5 (fun k=>Nat.beq 2 k) hT ?_
     refine⟨⟨rfl,rfl⟩,?_⟩
     refine⟨rfl,⟨?_,?_⟩,?_⟩
     ·show ((ixN L).length+1)*8≤_
      omega
     ·show (ixN L).length+1≤_
      omega
     refine⟨_,z6 [0,2] [0,1,2,7,9,10] rfl,L++[k],hstep.symm,?_⟩
     rw[v7c,← hj];rfl
    ·have h:b=false:=h
     rw[h]at hstep
     exact x6 ⟨_,z6 [0,1] [0,1,2,7,9,10] rfl,L,hstep.symm,rfl⟩
   ·rintro _ ⟨L2,hL2,rfl⟩
    refine z8 hT ?_
    exact⟨n - 1,by omega,_,z6 [0,1] [0,1,2,7,9,10] rfl,k+1,IntKind.i64.wrap (j+1),L2,by omega,by rw[Q0 _ (by omega) (by omega)];omega,hL2,rfl⟩
  ·have h:=k0y (show decide (j<(N:Int))=false from h)
   rw[show k=N by omega]at hL
   refine Q6 ?_
   exact⟨_,z6 [0,1] [7] rfl,L,hL,rfl⟩
 rintro _ ⟨L,rfl,rfl⟩
 refine z7 hT ?_
 refine Z2 (q1g 6 1 _ rfl rfl rfl rfl) ?_
 refine u0 ?_
 exact x7 [0] ⟨rfl,rfl⟩ rfl
end Go.Proofs.YtkjklhcfgbaceaaGreat.AL
