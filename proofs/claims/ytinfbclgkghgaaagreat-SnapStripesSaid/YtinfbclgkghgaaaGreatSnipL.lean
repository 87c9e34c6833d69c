/- A part of the proof. -/
import Derived.Test.YtinfbclgkghgaaaGreatSnipK
open List renaming getElem?_eq_getElem→k0x,getD_eq_getElem?_getD→k0w,getElem?_map→k1q,length_append→k1z,length_map→k1y,getElem_mem→k1x,take_of_length_le→k2z,mem_of_getElem?→k2x,length_take→k2u,take_add_one→k2t,getElem?_range→k2s,length_range→k3q
open Int renaming toNat_natCast→k0v
open Nat renaming le_refl→k1w
open Bool renaming and_eq_true→k1v
set_option maxHeartbeats 4000000
set_option maxRecDepth 20000

namespace Go.Proofs.YtinfbclgkghgaaaGreat.AL
open Go Go.Proofs
theorem v2g (a0:z6)(B:List z6)(q c:Nat)(q1:1≤q)(q2:q≤64)(c1:1≤c)(c2:c≤4096)(hA:∀ s∈([a0]:List z6),s.length=q)(hB:B.length=q)(hBc:∀ s∈B,s.length=c) :
 AFm Tryz.prog 1 J6 [.p (.sl 1 (z2 [a0])),.msl 0 1 0 q] [.row z0 1 (z2 B)] (v8 (.tup [.p (.sl 1 (z2 [x9 a0 B c q])),i64 0]) [.row z0 1 (z2 B)]):=by
 have wA:=J2 [a0] q (show 1≤1 by decide) (show 1≤64 by decide) q1 (by omega) hA
 have wB:=J2 B c (by omega) (by omega) c1 c2 hBc
 have wn:=q3h
 have hcl:=u5 B
 have h0:=k0x (show 0<B.length by omega)
 have hc0:=hBc _ (k1x (show 0<B.length by omega))
 generalize B[0]=b0 at h0 hc0
 have hx0:(z2 B)[0+(0:Int).toNat]?=some [bP b0]:=Q0 h0
 have hb0:=w6 b0
 have wf:=z2e q0q (bx b0).length (by omega) (fun _ _=>0) (fun i k _ _=>q3q i k)
 have ha0:a0.length=q:=hA a0 (by simp)
 have hx10:=w6 a0
 have hmk0:=Q8 (B:=B) a0 hBc (k:=q) (by omega)
 have wadd:=fun(to row:z6) (x:UInt8) (ht:to.length=c) (hr:row.length=c)=>q5u to row x (by omega) (by omega)
 unfold q2s at wn wadd
 generalize fP=F at wn wadd
 refine Q5 1 hT q3k rfl rfl q3m rfl rfl ?_
 refine q8 hT ?_
 have lend:=q9z wB 0 (H:=[.row z0 1 (z2 B)]) (args:=[.msl 0 1 0 q]) (t:=z0) (sz:=1) (xs:=z2 B) rfl ⟨.inr (.inl ⟨congrArg (AV.msl 0 1 0) (show q=(z2 B).length by omega),rfl⟩),trivial⟩ rfl (fun k hk=>by simp at hk)
 refine z7 ⟨⟨65,[(0,.p (.sl 1 (z2 [a0]))),(1,.msl 0 1 0 q)]⟩,[.row z0 1 (z2 B)]⟩ True (q8 hT ?_) (fun _=>?_)
 ·refine x7 (w7 wA _ rfl rfl) ?_
  refine x7 lend ?_
  refine⟨by decide,w9 rfl ?_⟩
  refine z4 (y4 (fun h=>?_) (fun h=>?_))
  ·have h:((((bx a0).length:Nat):Int) != ((q:Nat):Int))=true:=h
   rw[bne_iff_ne]at h
   omega
  exact z5 ⟨q7 [0] [0,1] rfl,trivial⟩
 refine q8 hT ?_
 refine x7 (w7 wn _ rfl rfl) ?_
 refine y6 (fun st=>∃ c',c'=c∧st=⟨⟨65,[(0,.p (.sl 1 (z2 [a0]))),(1,.msl 0 1 0 q),(6,.p (.box F)),(7,.msl 1 1 0 1)]⟩,[.row z0 1 (z2 B),.cells z0 [.msl 2 1 0 c'],.row z1 1 (bx (v9 (fun _ _=>0) c' 0))]⟩) (q9 hT ?_) ?_
 ·refine⟨⟨by decide,by omega⟩,?_⟩
  refine w9 hx0 ?_
  refine x7 (q2j wf _ rfl) ?_
  exact⟨_,q7 [0,1,2] [0,1,6,7] rfl,_,hb0.trans hc0,rfl⟩
 rintro _ ⟨c,rfl,rfl⟩
 clear wf
 refine z7 ⟨⟨65,[(7,.msl 1 1 0 1)]⟩,[.row z0 1 (z2 B),.cells z0 [.msl 2 1 0 c],.row z1 1 (bx (x9 a0 B c q))]⟩ True (q8 hT ?_) (fun _=>?_)
 ·refine z3 ?_
  refine y7 (fun n s=>(n=1∧s=⟨⟨65,[(0,.p (.sl 1 (z2 [a0]))),(1,.msl 0 1 0 q),(6,.p (.box F)),(7,.msl 1 1 0 1),(37,.p (.sl 1 (z2 [a0]))),(38,i64 1),(39,i64 0)]⟩,[.row z0 1 (z2 B),.cells z0 [.msl 2 1 0 c],.row z1 1 (bx (x9 a0 B c 0))]⟩)∨(n=0∧s=⟨⟨65,[(0,.p (.sl 1 (z2 [a0]))),(1,.msl 0 1 0 q),(6,.p (.box F)),(7,.msl 1 1 0 1),(37,.p (.sl 1 (z2 [a0]))),(38,i64 1),(39,i64 1)]⟩,[.row z0 1 (z2 B),.cells z0 [.msl 2 1 0 c],.row z1 1 (bx (x9 a0 B c q))]⟩)) 1 ⟨⟨65,_⟩,_⟩ (q7 [0,1,2] [0,1,6,7,37,38,39] rfl) (.inl ⟨rfl,by rw[q3r a0 B c 0];rfl⟩) ?_
  rintro n s (⟨rfl,rfl⟩|⟨rfl,rfl⟩)
  ·refine q8 hT ?_
   refine z8 (z4 ?_)
   refine z5 ?_
   refine z7 ⟨⟨65,[(0,.p (.sl 1 (z2 [a0]))),(1,.msl 0 1 0 q),(6,.p (.box F)),(7,.msl 1 1 0 1),(37,.p (.sl 1 (z2 [a0]))),(38,i64 1),(8,i64 0),(39,i64 0)]⟩,[.row z0 1 (z2 B),.cells z0 [.msl 2 1 0 c],.row z1 1 (bx (x9 a0 B c q))]⟩ True (z3 ?_) (fun _=>?_)
   ·refine q8 hT ?_
    refine⟨by decide,w9 rfl ?_⟩
    refine q8 hT ?_
    refine z3 ?_
    refine y7 (fun n s=>∃ (k:Nat) (j:Int),n+k=q∧j=k∧s=⟨⟨65,[(0,.p (.sl 1 (z2 [a0]))),(1,.msl 0 1 0 q),(6,.p (.box F)),(7,.msl 1 1 0 1),(37,.p (.sl 1 (z2 [a0]))),(38,i64 1),(8,i64 0),(39,i64 0),(44,bA a0),(45,i64 (bx a0).length),(46,i64 j)]⟩,[.row z0 1 (z2 B),.cells z0 [.msl 2 1 0 c],.row z1 1 (bx (x9 a0 B c k))]⟩) q ⟨⟨65,_⟩,_⟩ (q7 [0,1,2] [0,1,6,7,37,38,8,39,44,45,46] rfl) ⟨0,0,by omega,rfl,rfl⟩ ?_
    rintro n2 s ⟨k,j,hnk,hj,rfl⟩
    refine q8 hT ?_
    refine z8 (z4 (y4 (fun h=>?_) (fun h=>?_)))
    ·have h:=k0q (show decide (j<(((bx a0).length:Nat):Int))=true from h)
     have hk:k<a0.length:=by omega
     have hkB:k<B.length:=by omega
     refine z5 ?_
     have hxa:=k0x hk
     have hxb:=k0x hkB
     have hst:=W3 c hxa hxb
     have hlb:=hBc _ (k1x hkB)
     generalize a0[k]=x at hxa hst
     generalize B[k]=b at hxb hst hlb
     have hxp:(bx a0)[j.toNat]?=some [u8 x]:=by rw[hj,k0v];exact u7 hxa
     have hbp:(z2 B)[0+j.toNat]?=some [bP b]:=by rw[hj,k0v,Nat.zero_add];exact Q0 hxb
     have hml:=Q8 (B:=B) a0 hBc (k:=k) (by omega)
     have w:=wadd (x9 a0 B c k) b x hml hlb
     rw[hml,← hst]at w
     refine z7 ⟨⟨65,[(0,.p (.sl 1 (z2 [a0]))),(1,.msl 0 1 0 q),(6,.p (.box F)),(7,.msl 1 1 0 1),(37,.p (.sl 1 (z2 [a0]))),(38,i64 1),(8,i64 0),(39,i64 0),(44,bA a0),(45,i64 (bx a0).length),(46,i64 j)]⟩,[.row z0 1 (z2 B),.cells z0 [.msl 2 1 0 c],.row z1 1 (bx (x9 a0 B c (k+1)))]⟩ True (z3 (q8 hT ?_)) (fun _=>?_)
     ·refine⟨by omega,w9 hxp ?_⟩
      refine v7 [10] [] hT y5 (by rfl) ?_
      refine⟨by decide,?_⟩
      refine⟨⟨by omega,by omega⟩,?_⟩
      refine w9 hbp ?_
      refine⟨_,_,Q7 [2] w rfl rfl rfl,?_⟩
      repeat first|refine⟨rfl,?_⟩|refine⟨⟨by decide,rfl⟩,?_⟩|refine⟨⟨⟨by omega,by omega⟩,rfl⟩,?_⟩|refine⟨w9 hbp rfl,?_⟩
      exact⟨q7 [0,1,2] [0,1,6,7,37,38,8,39,44,45,46] rfl,trivial⟩
     ·refine q9 hT ?_
      exact⟨n2 - 1,by omega,_,q7 [0,1,2] [0,1,6,7,37,38,8,39,44,45,46] rfl,k+1,IntKind.i64.wrap (j+1),by omega,by rw[y8 _ (by omega) (by omega)];omega,rfl⟩
    ·have h:=k0z (show decide (j<(((bx a0).length:Nat):Int))=false from h)
     rw[show k=q by omega]
     refine x6 ?_
     exact⟨q7 [0,1,2] [0,1,6,7,37,38,8,39] rfl,trivial⟩
   ·refine q9 hT ?_
    exact⟨0,by decide,_,q7 [0,1,2] [0,1,6,7,37,38,39] rfl,(.inr ⟨rfl,rfl⟩)⟩
  ·refine q8 hT ?_
   refine z8 (z4 ?_)
   refine x6 ?_
   exact⟨q7 [0,1,2] [7] rfl,trivial⟩
 refine u6 (X2 2 1 0 c rfl rfl rfl (by rw[w6,hmk0])) ?_
 refine u6 (U3 1 [bP (x9 a0 B c q)] rfl rfl (show 1≤140737488355328 by decide)) ?_
 refine u6 (Z6 7 1 _ rfl rfl rfl rfl) ?_
 refine q8 hT ?_
 refine y9 ?_
 exact z9 [0] ⟨rfl,rfl⟩ rfl
theorem v2h (a0 a1:z6)(B:List z6)(q c:Nat)(q1:1≤q)(q2:q≤64)(c1:1≤c)(c2:c≤4096)(hA:∀ s∈([a0,a1]:List z6),s.length=q)(hB:B.length=q)(hBc:∀ s∈B,s.length=c) :
 AFm Tryz.prog 1 J6 [.p (.sl 1 (z2 [a0,a1])),.msl 0 1 0 q] [.row z0 1 (z2 B)] (v8 (.tup [.p (.sl 1 (z2 [x9 a0 B c q,x9 a1 B c q])),i64 0]) [.row z0 1 (z2 B)]):=by
 have wA:=J2 [a0,a1] q (show 1≤2 by decide) (show 2≤64 by decide) q1 (by omega) hA
 have wB:=J2 B c (by omega) (by omega) c1 c2 hBc
 have wn:=q3h
 have hcl:=u5 B
 have h0:=k0x (show 0<B.length by omega)
 have hc0:=hBc _ (k1x (show 0<B.length by omega))
 generalize B[0]=b0 at h0 hc0
 have hx0:(z2 B)[0+(0:Int).toNat]?=some [bP b0]:=Q0 h0
 have hb0:=w6 b0
 have wf:=z2f q0q (bx b0).length (by omega) (fun _ _=>0) (fun i k _ _=>q3q i k)
 have ha0:a0.length=q:=hA a0 (by simp)
 have hx10:=w6 a0
 have ha1:a1.length=q:=hA a1 (by simp)
 have hx11:=w6 a1
 have hmk0:=Q8 (B:=B) a0 hBc (k:=q) (by omega)
 have hmk1:=Q8 (B:=B) a1 hBc (k:=q) (by omega)
 have wadd:=fun(to row:z6) (x:UInt8) (ht:to.length=c) (hr:row.length=c)=>q5u to row x (by omega) (by omega)
 unfold q2s at wn wadd
 generalize fP=F at wn wadd
 refine Q5 1 hT q3k rfl rfl q3m rfl rfl ?_
 refine q8 hT ?_
 have lend:=q9z wB 0 (H:=[.row z0 1 (z2 B)]) (args:=[.msl 0 1 0 q]) (t:=z0) (sz:=1) (xs:=z2 B) rfl ⟨.inr (.inl ⟨congrArg (AV.msl 0 1 0) (show q=(z2 B).length by omega),rfl⟩),trivial⟩ rfl (fun k hk=>by simp at hk)
 refine z7 ⟨⟨65,[(0,.p (.sl 1 (z2 [a0,a1]))),(1,.msl 0 1 0 q)]⟩,[.row z0 1 (z2 B)]⟩ True (q8 hT ?_) (fun _=>?_)
 ·refine x7 (w7 wA _ rfl rfl) ?_
  refine x7 lend ?_
  refine⟨by decide,w9 rfl ?_⟩
  refine z4 (y4 (fun h=>?_) (fun h=>?_))
  ·have h:((((bx a0).length:Nat):Int) != ((q:Nat):Int))=true:=h
   rw[bne_iff_ne]at h
   omega
  exact z5 ⟨q7 [0] [0,1] rfl,trivial⟩
 refine q8 hT ?_
 refine x7 (w7 wn _ rfl rfl) ?_
 refine y6 (fun st=>∃ c',c'=c∧st=⟨⟨65,[(0,.p (.sl 1 (z2 [a0,a1]))),(1,.msl 0 1 0 q),(6,.p (.box F)),(7,.msl 1 1 0 2)]⟩,[.row z0 1 (z2 B),.cells z0 [.msl 2 1 0 c',.msl 3 1 0 c'],.row z1 1 (bx (v9 (fun _ _=>0) c' 0)),.row z1 1 (bx (v9 (fun _ _=>0) c' 1))]⟩) (q9 hT ?_) ?_
 ·refine⟨⟨by decide,by omega⟩,?_⟩
  refine w9 hx0 ?_
  refine x7 (q2j wf _ rfl) ?_
  exact⟨_,q7 [0,1,2,3] [0,1,6,7] rfl,_,hb0.trans hc0,rfl⟩
 rintro _ ⟨c,rfl,rfl⟩
 clear wf
 refine z7 ⟨⟨65,[(7,.msl 1 1 0 2)]⟩,[.row z0 1 (z2 B),.cells z0 [.msl 2 1 0 c,.msl 3 1 0 c],.row z1 1 (bx (x9 a0 B c q)),.row z1 1 (bx (x9 a1 B c q))]⟩ True (q8 hT ?_) (fun _=>?_)
 ·refine z3 ?_
  refine y7 (fun n s=>(n=2∧s=⟨⟨65,[(0,.p (.sl 1 (z2 [a0,a1]))),(1,.msl 0 1 0 q),(6,.p (.box F)),(7,.msl 1 1 0 2),(37,.p (.sl 1 (z2 [a0,a1]))),(38,i64 2),(39,i64 0)]⟩,[.row z0 1 (z2 B),.cells z0 [.msl 2 1 0 c,.msl 3 1 0 c],.row z1 1 (bx (x9 a0 B c 0)),.row z1 1 (bx (x9 a1 B c 0))]⟩)∨(n=1∧s=⟨⟨65,[(0,.p (.sl 1 (z2 [a0,a1]))),(1,.msl 0 1 0 q),(6,.p (.box F)),(7,.msl 1 1 0 2),(37,.p (.sl 1 (z2 [a0,a1]))),(38,i64 2),(39,i64 1)]⟩,[.row z0 1 (z2 B),.cells z0 [.msl 2 1 0 c,.msl 3 1 0 c],.row z1 1 (bx (x9 a0 B c q)),.row z1 1 (bx (x9 a1 B c 0))]⟩)∨(n=0∧s=⟨⟨65,[(0,.p (.sl 1 (z2 [a0,a1]))),(1,.msl 0 1 0 q),(6,.p (.box F)),(7,.msl 1 1 0 2),(37,.p (.sl 1 (z2 [a0,a1]))),(38,i64 2),(39,i64 2)]⟩,[.row z0 1 (z2 B),.cells z0 [.msl 2 1 0 c,.msl 3 1 0 c],.row z1 1 (bx (x9 a0 B c q)),.row z1 1 (bx (x9 a1 B c q))]⟩)) 2 ⟨⟨65,_⟩,_⟩ (q7 [0,1,2,3] [0,1,6,7,37,38,39] rfl) (.inl ⟨rfl,by rw[q3r a0 B c 0,q3r a1 B c 1];rfl⟩) ?_
  rintro n s (⟨rfl,rfl⟩|⟨rfl,rfl⟩|⟨rfl,rfl⟩)
  ·refine q8 hT ?_
   refine z8 (z4 ?_)
   refine z5 ?_
   refine z7 ⟨⟨65,[(0,.p (.sl 1 (z2 [a0,a1]))),(1,.msl 0 1 0 q),(6,.p (.box F)),(7,.msl 1 1 0 2),(37,.p (.sl 1 (z2 [a0,a1]))),(38,i64 2),(8,i64 0),(39,i64 0)]⟩,[.row z0 1 (z2 B),.cells z0 [.msl 2 1 0 c,.msl 3 1 0 c],.row z1 1 (bx (x9 a0 B c q)),.row z1 1 (bx (x9 a1 B c 0))]⟩ True (z3 ?_) (fun _=>?_)
   ·refine q8 hT ?_
    refine⟨by decide,w9 rfl ?_⟩
    refine q8 hT ?_
    refine z3 ?_
    refine y7 (fun n s=>∃ (k:Nat) (j:Int),n+k=q∧j=k∧s=⟨⟨65,[(0,.p (.sl 1 (z2 [a0,a1]))),(1,.msl 0 1 0 q),(6,.p (.box F)),(7,.msl 1 1 0 2),(37,.p (.sl 1 (z2 [a0,a1]))),(38,i64 2),(8,i64 0),(39,i64 0),(44,bA a0),(45,i64 (bx a0).length),(46,i64 j)]⟩,[.row z0 1 (z2 B),.cells z0 [.msl 2 1 0 c,.msl 3 1 0 c],.row z1 1 (bx (x9 a0 B c k)),.row z1 1 (bx (x9 a1 B c 0))]⟩) q ⟨⟨65,_⟩,_⟩ (q7 [0,1,2,3] [0,1,6,7,37,38,8,39,44,45,46] rfl) ⟨0,0,by omega,rfl,rfl⟩ ?_
    rintro n2 s ⟨k,j,hnk,hj,rfl⟩
    refine q8 hT ?_
    refine z8 (z4 (y4 (fun h=>?_) (fun h=>?_)))
    ·have h:=k0q (show decide (j<(((bx a0).length:Nat):Int))=true from h)
     have hk:k<a0.length:=by omega
     have hkB:k<B.length:=by omega
     refine z5 ?_
     have hxa:=k0x hk
     have hxb:=k0x hkB
     have hst:=W3 c hxa hxb
     have hlb:=hBc _ (k1x hkB)
     generalize a0[k]=x at hxa hst
     generalize B[k]=b at hxb hst hlb
     have hxp:(bx a0)[j.toNat]?=some [u8 x]:=by rw[hj,k0v];exact u7 hxa
     have hbp:(z2 B)[0+j.toNat]?=some [bP b]:=by rw[hj,k0v,Nat.zero_add];exact Q0 hxb
     have hml:=Q8 (B:=B) a0 hBc (k:=k) (by omega)
     have w:=wadd (x9 a0 B c k) b x hml hlb
     rw[hml,← hst]at w
     refine z7 ⟨⟨65,[(0,.p (.sl 1 (z2 [a0,a1]))),(1,.msl 0 1 0 q),(6,.p (.box F)),(7,.msl 1 1 0 2),(37,.p (.sl 1 (z2 [a0,a1]))),(38,i64 2),(8,i64 0),(39,i64 0),(44,bA a0),(45,i64 (bx a0).length),(46,i64 j)]⟩,[.row z0 1 (z2 B),.cells z0 [.msl 2 1 0 c,.msl 3 1 0 c],.row z1 1 (bx (x9 a0 B c (k+1))),.row z1 1 (bx (x9 a1 B c 0))]⟩ True (z3 (q8 hT ?_)) (fun _=>?_)
     ·refine⟨by omega,w9 hxp ?_⟩
      refine v7 [10] [] hT y5 (by rfl) ?_
      refine⟨by decide,?_⟩
      refine⟨⟨by omega,by omega⟩,?_⟩
      refine w9 hbp ?_
      refine⟨_,_,Q7 [2] w rfl rfl rfl,?_⟩
      repeat first|refine⟨rfl,?_⟩|refine⟨⟨by decide,rfl⟩,?_⟩|refine⟨⟨⟨by omega,by omega⟩,rfl⟩,?_⟩|refine⟨w9 hbp rfl,?_⟩
      exact⟨q7 [0,1,2,3] [0,1,6,7,37,38,8,39,44,45,46] rfl,trivial⟩
     ·refine q9 hT ?_
      exact⟨n2 - 1,by omega,_,q7 [0,1,2,3] [0,1,6,7,37,38,8,39,44,45,46] rfl,k+1,IntKind.i64.wrap (j+1),by omega,by rw[y8 _ (by omega) (by omega)];omega,rfl⟩
    ·have h:=k0z (show decide (j<(((bx a0).length:Nat):Int))=false from h)
     rw[show k=q by omega]
     refine x6 ?_
     exact⟨q7 [0,1,2,3] [0,1,6,7,37,38,8,39] rfl,trivial⟩
   ·refine q9 hT ?_
    exact⟨1,by decide,_,q7 [0,1,2,3] [0,1,6,7,37,38,39] rfl,(.inr (.inl ⟨rfl,rfl⟩))⟩
  ·refine q8 hT ?_
   refine z8 (z4 ?_)
   refine z5 ?_
   refine z7 ⟨⟨65,[(0,.p (.sl 1 (z2 [a0,a1]))),(1,.msl 0 1 0 q),(6,.p (.box F)),(7,.msl 1 1 0 2),(37,.p (.sl 1 (z2 [a0,a1]))),(38,i64 2),(8,i64 1),(39,i64 1)]⟩,[.row z0 1 (z2 B),.cells z0 [.msl 2 1 0 c,.msl 3 1 0 c],.row z1 1 (bx (x9 a0 B c q)),.row z1 1 (bx (x9 a1 B c q))]⟩ True (z3 ?_) (fun _=>?_)
   ·refine q8 hT ?_
    refine⟨by decide,w9 rfl ?_⟩
    refine q8 hT ?_
    refine z3 ?_
    refine y7 (fun n s=>∃ (k:Nat) (j:Int),n+k=q∧j=k∧s=⟨⟨65,[(0,.p (.sl 1 (z2 [a0,a1]))),(1,.msl 0 1 0 q),(6,.p (.box F)),(7,.msl 1 1 0 2),(37,.p (.sl 1 (z2 [a0,a1]))),(38,i64 2),(8,i64 1),(39,i64 1),(44,bA a1),(45,i64 (bx a1).length),(46,i64 j)]⟩,[.row z0 1 (z2 B),.cells z0 [.msl 2 1 0 c,.msl 3 1 0 c],.row z1 1 (bx (x9 a0 B c q)),.row z1 1 (bx (x9 a1 B c k))]⟩) q ⟨⟨65,_⟩,_⟩ (q7 [0,1,2,3] [0,1,6,7,37,38,8,39,44,45,46] rfl) ⟨0,0,by omega,rfl,rfl⟩ ?_
    rintro n2 s ⟨k,j,hnk,hj,rfl⟩
    refine q8 hT ?_
    refine z8 (z4 (y4 (fun h=>?_) (fun h=>?_)))
    ·have h:=k0q (show decide (j<(((bx a1).length:Nat):Int))=true from h)
     have hk:k<a1.length:=by omega
     have hkB:k<B.length:=by omega
     refine z5 ?_
     have hxa:=k0x hk
     have hxb:=k0x hkB
     have hst:=W3 c hxa hxb
     have hlb:=hBc _ (k1x hkB)
     generalize a1[k]=x at hxa hst
     generalize B[k]=b at hxb hst hlb
     have hxp:(bx a1)[j.toNat]?=some [u8 x]:=by rw[hj,k0v];exact u7 hxa
     have hbp:(z2 B)[0+j.toNat]?=some [bP b]:=by rw[hj,k0v,Nat.zero_add];exact Q0 hxb
     have hml:=Q8 (B:=B) a1 hBc (k:=k) (by omega)
     have w:=wadd (x9 a1 B c k) b x hml hlb
     rw[hml,← hst]at w
     refine z7 ⟨⟨65,[(0,.p (.sl 1 (z2 [a0,a1]))),(1,.msl 0 1 0 q),(6,.p (.box F)),(7,.msl 1 1 0 2),(37,.p (.sl 1 (z2 [a0,a1]))),(38,i64 2),(8,i64 1),(39,i64 1),(44,bA a1),(45,i64 (bx a1).length),(46,i64 j)]⟩,[.row z0 1 (z2 B),.cells z0 [.msl 2 1 0 c,.msl 3 1 0 c],.row z1 1 (bx (x9 a0 B c q)),.row z1 1 (bx (x9 a1 B c (k+1)))]⟩ True (z3 (q8 hT ?_)) (fun _=>?_)
     ·refine⟨by omega,w9 hxp ?_⟩
      refine v7 [10] [] hT y5 (by rfl) ?_
      refine⟨by decide,?_⟩
      refine⟨⟨by omega,by omega⟩,?_⟩
      refine w9 hbp ?_
      refine⟨_,_,Q7 [3] w rfl rfl rfl,?_⟩
      repeat first|refine⟨rfl,?_⟩|refine⟨⟨by decide,rfl⟩,?_⟩|refine⟨⟨⟨by omega,by omega⟩,rfl⟩,?_⟩|refine⟨w9 hbp rfl,?_⟩
      exact⟨q7 [0,1,2,3] [0,1,6,7,37,38,8,39,44,45,46] rfl,trivial⟩
     ·refine q9 hT ?_
      exact⟨n2 - 1,by omega,_,q7 [0,1,2,3] [0,1,6,7,37,38,8,39,44,45,46] rfl,k+1,IntKind.i64.wrap (j+1),by omega,by rw[y8 _ (by omega) (by omega)];omega,rfl⟩
    ·have h:=k0z (show decide (j<(((bx a1).length:Nat):Int))=false from h)
     rw[show k=q by omega]
     refine x6 ?_
     exact⟨q7 [0,1,2,3] [0,1,6,7,37,38,8,39] rfl,trivial⟩
   ·refine q9 hT ?_
    exact⟨0,by decide,_,q7 [0,1,2,3] [0,1,6,7,37,38,39] rfl,(.inr (.inr ⟨rfl,rfl⟩))⟩
  ·refine q8 hT ?_
   refine z8 (z4 ?_)
   refine x6 ?_
   exact⟨q7 [0,1,2,3] [7] rfl,trivial⟩
 refine u6 (X2 2 1 0 c rfl rfl rfl (by rw[w6,hmk0])) ?_
 refine u6 (X2 3 1 1 c rfl rfl rfl (by rw[w6,hmk1])) ?_
 refine u6 (U3 1 [bP (x9 a0 B c q),bP (x9 a1 B c q)] rfl rfl (show 2≤140737488355328 by decide)) ?_
 refine u6 (Z6 7 1 _ rfl rfl rfl rfl) ?_
 refine q8 hT ?_
 refine y9 ?_
 exact z9 [0] ⟨rfl,rfl⟩ rfl
theorem v2i (a0 a1 a2:z6)(B:List z6)(q c:Nat)(q1:1≤q)(q2:q≤64)(c1:1≤c)(c2:c≤4096)(hA:∀ s∈([a0,a1,a2]:List z6),s.length=q)(hB:B.length=q)(hBc:∀ s∈B,s.length=c) :
 AFm Tryz.prog 1 J6 [.p (.sl 1 (z2 [a0,a1,a2])),.msl 0 1 0 q] [.row z0 1 (z2 B)] (v8 (.tup [.p (.sl 1 (z2 [x9 a0 B c q,x9 a1 B c q,x9 a2 B c q])),i64 0]) [.row z0 1 (z2 B)]):=by
 have wA:=J2 [a0,a1,a2] q (show 1≤3 by decide) (show 3≤64 by decide) q1 (by omega) hA
 have wB:=J2 B c (by omega) (by omega) c1 c2 hBc
 have wn:=q3h
 have hcl:=u5 B
 have h0:=k0x (show 0<B.length by omega)
 have hc0:=hBc _ (k1x (show 0<B.length by omega))
 generalize B[0]=b0 at h0 hc0
 have hx0:(z2 B)[0+(0:Int).toNat]?=some [bP b0]:=Q0 h0
 have hb0:=w6 b0
 have wf:=z2g q0q (bx b0).length (by omega) (fun _ _=>0) (fun i k _ _=>q3q i k)
 have ha0:a0.length=q:=hA a0 (by simp)
 have hx10:=w6 a0
 have ha1:a1.length=q:=hA a1 (by simp)
 have hx11:=w6 a1
 have ha2:a2.length=q:=hA a2 (by simp)
 have hx12:=w6 a2
 have hmk0:=Q8 (B:=B) a0 hBc (k:=q) (by omega)
 have hmk1:=Q8 (B:=B) a1 hBc (k:=q) (by omega)
 have hmk2:=Q8 (B:=B) a2 hBc (k:=q) (by omega)
 have wadd:=fun(to row:z6) (x:UInt8) (ht:to.length=c) (hr:row.length=c)=>q5u to row x (by omega) (by omega)
 unfold q2s at wn wadd
 generalize fP=F at wn wadd
 refine Q5 1 hT q3k rfl rfl q3m rfl rfl ?_
 refine q8 hT ?_
 have lend:=q9z wB 0 (H:=[.row z0 1 (z2 B)]) (args:=[.msl 0 1 0 q]) (t:=z0) (sz:=1) (xs:=z2 B) rfl ⟨.inr (.inl ⟨congrArg (AV.msl 0 1 0) (show q=(z2 B).length by omega),rfl⟩),trivial⟩ rfl (fun k hk=>by simp at hk)
 refine z7 ⟨⟨65,[(0,.p (.sl 1 (z2 [a0,a1,a2]))),(1,.msl 0 1 0 q)]⟩,[.row z0 1 (z2 B)]⟩ True (q8 hT ?_) (fun _=>?_)
 ·refine x7 (w7 wA _ rfl rfl) ?_
  refine x7 lend ?_
  refine⟨by decide,w9 rfl ?_⟩
  refine z4 (y4 (fun h=>?_) (fun h=>?_))
  ·have h:((((bx a0).length:Nat):Int) != ((q:Nat):Int))=true:=h
   rw[bne_iff_ne]at h
   omega
  exact z5 ⟨q7 [0] [0,1] rfl,trivial⟩
 refine q8 hT ?_
 refine x7 (w7 wn _ rfl rfl) ?_
 refine y6 (fun st=>∃ c',c'=c∧st=⟨⟨65,[(0,.p (.sl 1 (z2 [a0,a1,a2]))),(1,.msl 0 1 0 q),(6,.p (.box F)),(7,.msl 1 1 0 3)]⟩,[.row z0 1 (z2 B),.cells z0 [.msl 2 1 0 c',.msl 3 1 0 c',.msl 4 1 0 c'],.row z1 1 (bx (v9 (fun _ _=>0) c' 0)),.row z1 1 (bx (v9 (fun _ _=>0) c' 1)),.row z1 1 (bx (v9 (fun _ _=>0) c' 2))]⟩) (q9 hT ?_) ?_
 ·refine⟨⟨by decide,by omega⟩,?_⟩
  refine w9 hx0 ?_
  refine x7 (q2j wf _ rfl) ?_
  exact⟨_,q7 [0,1,2,3,4] [0,1,6,7] rfl,_,hb0.trans hc0,rfl⟩
 rintro _ ⟨c,rfl,rfl⟩
 clear wf
 refine z7 ⟨⟨65,[(7,.msl 1 1 0 3)]⟩,[.row z0 1 (z2 B),.cells z0 [.msl 2 1 0 c,.msl 3 1 0 c,.msl 4 1 0 c],.row z1 1 (bx (x9 a0 B c q)),.row z1 1 (bx (x9 a1 B c q)),.row z1 1 (bx (x9 a2 B c q))]⟩ True (q8 hT ?_) (fun _=>?_)
 ·refine z3 ?_
  refine y7 (fun n s=>(n=3∧s=⟨⟨65,[(0,.p (.sl 1 (z2 [a0,a1,a2]))),(1,.msl 0 1 0 q),(6,.p (.box F)),(7,.msl 1 1 0 3),(37,.p (.sl 1 (z2 [a0,a1,a2]))),(38,i64 3),(39,i64 0)]⟩,[.row z0 1 (z2 B),.cells z0 [.msl 2 1 0 c,.msl 3 1 0 c,.msl 4 1 0 c],.row z1 1 (bx (x9 a0 B c 0)),.row z1 1 (bx (x9 a1 B c 0)),.row z1 1 (bx (x9 a2 B c 0))]⟩)∨(n=2∧s=⟨⟨65,[(0,.p (.sl 1 (z2 [a0,a1,a2]))),(1,.msl 0 1 0 q),(6,.p (.box F)),(7,.msl 1 1 0 3),(37,.p (.sl 1 (z2 [a0,a1,a2]))),(38,i64 3),(39,i64 1)]⟩,[.row z0 1 (z2 B),.cells z0 [.msl 2 1 0 c,.msl 3 1 0 c,.msl 4 1 0 c],.row z1 1 (bx (x9 a0 B c q)),.row z1 1 (bx (x9 a1 B c 0)),.row z1 1 (bx (x9 a2 B c 0))]⟩)∨(n=1∧s=⟨⟨65,[(0,.p (.sl 1 (z2 [a0,a1,a2]))),(1,.msl 0 1 0 q),(6,.p (.box F)),(7,.msl 1 1 0 3),(37,.p (.sl 1 (z2 [a0,a1,a2]))),(38,i64 3),(39,i64 2)]⟩,[.row z0 1 (z2 B),.cells z0 [.msl 2 1 0 c,.msl 3 1 0 c,.msl 4 1 0 c],.row z1 1 (bx (x9 a0 B c q)),.row z1 1 (bx (x9 a1 B c q)),.row z1 1 (bx (x9 a2 B c 0))]⟩)∨(n=0∧s=⟨⟨65,[(0,.p (.sl 1 (z2 [a0,a1,a2]))),(1,.msl 0 1 0 q),(6,.p (.box F)),(7,.msl 1 1 0 3),(37,.p (.sl 1 (z2 [a0,a1,a2]))),(38,i64 3),(39,i64 3)]⟩,[.row z0 1 (z2 B),.cells z0 [.msl 2 1 0 c,.msl 3 1 0 c,.msl 4 1 0 c],.row z1 1 (bx (x9 a0 B c q)),.row z1 1 (bx (x9 a1 B c q)),.row z1 1 (bx (x9 a2 B c q))]⟩)) 3 ⟨⟨65,_⟩,_⟩ (q7 [0,1,2,3,4] [0,1,6,7,37,38,39] rfl) (.inl ⟨rfl,by rw[q3r a0 B c 0,q3r a1 B c 1,q3r a2 B c 2];rfl⟩) ?_
  rintro n s (⟨rfl,rfl⟩|⟨rfl,rfl⟩|⟨rfl,rfl⟩|⟨rfl,rfl⟩)
  ·refine q8 hT ?_
   refine z8 (z4 ?_)
   refine z5 ?_
   refine z7 ⟨⟨65,[(0,.p (.sl 1 (z2 [a0,a1,a2]))),(1,.msl 0 1 0 q),(6,.p (.box F)),(7,.msl 1 1 0 3),(37,.p (.sl 1 (z2 [a0,a1,a2]))),(38,i64 3),(8,i64 0),(39,i64 0)]⟩,[.row z0 1 (z2 B),.cells z0 [.msl 2 1 0 c,.msl 3 1 0 c,.msl 4 1 0 c],.row z1 1 (bx (x9 a0 B c q)),.row z1 1 (bx (x9 a1 B c 0)),.row z1 1 (bx (x9 a2 B c 0))]⟩ True (z3 ?_) (fun _=>?_)
   ·refine q8 hT ?_
    refine⟨by decide,w9 rfl ?_⟩
    refine q8 hT ?_
    refine z3 ?_
    refine y7 (fun n s=>∃ (k:Nat) (j:Int),n+k=q∧j=k∧s=⟨⟨65,[(0,.p (.sl 1 (z2 [a0,a1,a2]))),(1,.msl 0 1 0 q),(6,.p (.box F)),(7,.msl 1 1 0 3),(37,.p (.sl 1 (z2 [a0,a1,a2]))),(38,i64 3),(8,i64 0),(39,i64 0),(44,bA a0),(45,i64 (bx a0).length),(46,i64 j)]⟩,[.row z0 1 (z2 B),.cells z0 [.msl 2 1 0 c,.msl 3 1 0 c,.msl 4 1 0 c],.row z1 1 (bx (x9 a0 B c k)),.row z1 1 (bx (x9 a1 B c 0)),.row z1 1 (bx (x9 a2 B c 0))]⟩) q ⟨⟨65,_⟩,_⟩ (q7 [0,1,2,3,4] [0,1,6,7,37,38,8,39,44,45,46] rfl) ⟨0,0,by omega,rfl,rfl⟩ ?_
    rintro n2 s ⟨k,j,hnk,hj,rfl⟩
    refine q8 hT ?_
    refine z8 (z4 (y4 (fun h=>?_) (fun h=>?_)))
    ·have h:=k0q (show decide (j<(((bx a0).length:Nat):Int))=true from h)
     have hk:k<a0.length:=by omega
     have hkB:k<B.length:=by omega
     refine z5 ?_
     have hxa:=k0x hk
     have hxb:=k0x hkB
     have hst:=W3 c hxa hxb
     have hlb:=hBc _ (k1x hkB)
     generalize a0[k]=x at hxa hst
     generalize B[k]=b at hxb hst hlb
     have hxp:(bx a0)[j.toNat]?=some [u8 x]:=by rw[hj,k0v];exact u7 hxa
     have hbp:(z2 B)[0+j.toNat]?=some [bP b]:=by rw[hj,k0v,Nat.zero_add];exact Q0 hxb
     have hml:=Q8 (B:=B) a0 hBc (k:=k) (by omega)
     have w:=wadd (x9 a0 B c k) b x hml hlb
     rw[hml,← hst]at w
     refine z7 ⟨⟨65,[(0,.p (.sl 1 (z2 [a0,a1,a2]))),(1,.msl 0 1 0 q),(6,.p (.box F)),(7,.msl 1 1 0 3),(37,.p (.sl 1 (z2 [a0,a1,a2]))),(38,i64 3),(8,i64 0),(39,i64 0),(44,bA a0),(45,i64 (bx a0).length),(46,i64 j)]⟩,[.row z0 1 (z2 B),.cells z0 [.msl 2 1 0 c,.msl 3 1 0 c,.msl 4 1 0 c],.row z1 1 (bx (x9 a0 B c (k+1))),.row z1 1 (bx (x9 a1 B c 0)),.row z1 1 (bx (x9 a2 B c 0))]⟩ True (z3 (q8 hT ?_)) (fun _=>?_)
     ·refine⟨by omega,w9 hxp ?_⟩
      refine v7 [10] [] hT y5 (by rfl) ?_
      refine⟨by decide,?_⟩
      refine⟨⟨by omega,by omega⟩,?_⟩
      refine w9 hbp ?_
      refine⟨_,_,Q7 [2] w rfl rfl rfl,?_⟩
      repeat first|refine⟨rfl,?_⟩|refine⟨⟨by decide,rfl⟩,?_⟩|refine⟨⟨⟨by omega,by omega⟩,rfl⟩,?_⟩|refine⟨w9 hbp rfl,?_⟩
      exact⟨q7 [0,1,2,3,4] [0,1,6,7,37,38,8,39,44,45,46] rfl,trivial⟩
     ·refine q9 hT ?_
      exact⟨n2 - 1,by omega,_,q7 [0,1,2,3,4] [0,1,6,7,37,38,8,39,44,45,46] rfl,k+1,IntKind.i64.wrap (j+1),by omega,by rw[y8 _ (by omega) (by omega)];omega,rfl⟩
    ·have h:=k0z (show decide (j<(((bx a0).length:Nat):Int))=false from h)
     rw[show k=q by omega]
     refine x6 ?_
     exact⟨q7 [0,1,2,3,4] [0,1,6,7,37,38,8,39] rfl,trivial⟩
   ·refine q9 hT ?_
    exact⟨2,by decide,_,q7 [0,1,2,3,4] [0,1,6,7,37,38,39] rfl,(.inr (.inl ⟨rfl,rfl⟩))⟩
  ·refine q8 hT ?_
   refine z8 (z4 ?_)
   refine z5 ?_
   refine z7 ⟨⟨65,[(0,.p (.sl 1 (z2 [a0,a1,a2]))),(1,.msl 0 1 0 q),(6,.p (.box F)),(7,.msl 1 1 0 3),(37,.p (.sl 1 (z2 [a0,a1,a2]))),(38,i64 3),(8,i64 1),(39,i64 1)]⟩,[.row z0 1 (z2 B),.cells z0 [.msl 2 1 0 c,.msl 3 1 0 c,.msl 4 1 0 c],.row z1 1 (bx (x9 a0 B c q)),.row z1 1 (bx (x9 a1 B c q)),.row z1 1 (bx (x9 a2 B c 0))]⟩ True (z3 ?_) (fun _=>?_)
   ·refine q8 hT ?_
    refine⟨by decide,w9 rfl ?_⟩
    refine q8 hT ?_
    refine z3 ?_
    refine y7 (fun n s=>∃ (k:Nat) (j:Int),n+k=q∧j=k∧s=⟨⟨65,[(0,.p (.sl 1 (z2 [a0,a1,a2]))),(1,.msl 0 1 0 q),(6,.p (.box F)),(7,.msl 1 1 0 3),(37,.p (.sl 1 (z2 [a0,a1,a2]))),(38,i64 3),(8,i64 1),(39,i64 1),(44,bA a1),(45,i64 (bx a1).length),(46,i64 j)]⟩,[.row z0 1 (z2 B),.cells z0 [.msl 2 1 0 c,.msl 3 1 0 c,.msl 4 1 0 c],.row z1 1 (bx (x9 a0 B c q)),.row z1 1 (bx (x9 a1 B c k)),.row z1 1 (bx (x9 a2 B c 0))]⟩) q ⟨⟨65,_⟩,_⟩ (q7 [0,1,2,3,4] [0,1,6,7,37,38,8,39,44,45,46] rfl) ⟨0,0,by omega,rfl,rfl⟩ ?_
    rintro n2 s ⟨k,j,hnk,hj,rfl⟩
    refine q8 hT ?_
    refine z8 (z4 (y4 (fun h=>?_) (fun h=>?_)))
    ·have h:=k0q (show decide (j<(((bx a1).length:Nat):Int))=true from h)
     have hk:k<a1.length:=by omega
     have hkB:k<B.length:=by omega
     refine z5 ?_
     have hxa:=k0x hk
     have hxb:=k0x hkB
     have hst:=W3 c hxa hxb
     have hlb:=hBc _ (k1x hkB)
     generalize a1[k]=x at hxa hst
     generalize B[k]=b at hxb hst hlb
     have hxp:(bx a1)[j.toNat]?=some [u8 x]:=by rw[hj,k0v];exact u7 hxa
     have hbp:(z2 B)[0+j.toNat]?=some [bP b]:=by rw[hj,k0v,Nat.zero_add];exact Q0 hxb
     have hml:=Q8 (B:=B) a1 hBc (k:=k) (by omega)
     have w:=wadd (x9 a1 B c k) b x hml hlb
     rw[hml,← hst]at w
     refine z7 ⟨⟨65,[(0,.p (.sl 1 (z2 [a0,a1,a2]))),(1,.msl 0 1 0 q),(6,.p (.box F)),(7,.msl 1 1 0 3),(37,.p (.sl 1 (z2 [a0,a1,a2]))),(38,i64 3),(8,i64 1),(39,i64 1),(44,bA a1),(45,i64 (bx a1).length),(46,i64 j)]⟩,[.row z0 1 (z2 B),.cells z0 [.msl 2 1 0 c,.msl 3 1 0 c,.msl 4 1 0 c],.row z1 1 (bx (x9 a0 B c q)),.row z1 1 (bx (x9 a1 B c (k+1))),.row z1 1 (bx (x9 a2 B c 0))]⟩ True (z3 (q8 hT ?_)) (fun _=>?_)
     ·refine⟨by omega,w9 hxp ?_⟩
      refine v7 [10] [] hT y5 (by rfl) ?_
      refine⟨by decide,?_⟩
      refine⟨⟨by omega,by omega⟩,?_⟩
      refine w9 hbp ?_
      refine⟨_,_,Q7 [3] w rfl rfl rfl,?_⟩
      repeat first|refine⟨rfl,?_⟩|refine⟨⟨by decide,rfl⟩,?_⟩|refine⟨⟨⟨by omega,by omega⟩,rfl⟩,?_⟩|refine⟨w9 hbp rfl,?_⟩
      exact⟨q7 [0,1,2,3,4] [0,1,6,7,37,38,8,39,44,45,46] rfl,trivial⟩
     ·refine q9 hT ?_
      exact⟨n2 - 1,by omega,_,q7 [0,1,2,3,4] [0,1,6,7,37,38,8,39,44,45,46] rfl,k+1,IntKind.i64.wrap (j+1),by omega,by rw[y8 _ (by omega) (by omega)];omega,rfl⟩
    ·have h:=k0z (show decide (j<(((bx a1).length:Nat):Int))=false from h)
     rw[show k=q by omega]
     refine x6 ?_
     exact⟨q7 [0,1,2,3,4] [0,1,6,7,37,38,8,39] rfl,trivial⟩
   ·refine q9 hT ?_
    exact⟨1,by decide,_,q7 [0,1,2,3,4] [0,1,6,7,37,38,39] rfl,(.inr (.inr (.inl ⟨rfl,rfl⟩)))⟩
  ·refine q8 hT ?_
   refine z8 (z4 ?_)
   refine z5 ?_
   refine z7 ⟨⟨65,[(0,.p (.sl 1 (z2 [a0,a1,a2]))),(1,.msl 0 1 0 q),(6,.p (.box F)),(7,.msl 1 1 0 3),(37,.p (.sl 1 (z2 [a0,a1,a2]))),(38,i64 3),(8,i64 2),(39,i64 2)]⟩,[.row z0 1 (z2 B),.cells z0 [.msl 2 1 0 c,.msl 3 1 0 c,.msl 4 1 0 c],.row z1 1 (bx (x9 a0 B c q)),.row z1 1 (bx (x9 a1 B c q)),.row z1 1 (bx (x9 a2 B c q))]⟩ True (z3 ?_) (fun _=>?_)
   ·refine q8 hT ?_
    refine⟨by decide,w9 rfl ?_⟩
    refine q8 hT ?_
    refine z3 ?_
    refine y7 (fun n s=>∃ (k:Nat) (j:Int),n+k=q∧j=k∧s=⟨⟨65,[(0,.p (.sl 1 (z2 [a0,a1,a2]))),(1,.msl 0 1 0 q),(6,.p (.box F)),(7,.msl 1 1 0 3),(37,.p (.sl 1 (z2 [a0,a1,a2]))),(38,i64 3),(8,i64 2),(39,i64 2),(44,bA a2),(45,i64 (bx a2).length),(46,i64 j)]⟩,[.row z0 1 (z2 B),.cells z0 [.msl 2 1 0 c,.msl 3 1 0 c,.msl 4 1 0 c],.row z1 1 (bx (x9 a0 B c q)),.row z1 1 (bx (x9 a1 B c q)),.row z1 1 (bx (x9 a2 B c k))]⟩) q ⟨⟨65,_⟩,_⟩ (q7 [0,1,2,3,4] [0,1,6,7,37,38,8,39,44,45,46] rfl) ⟨0,0,by omega,rfl,rfl⟩ ?_
    rintro n2 s ⟨k,j,hnk,hj,rfl⟩
    refine q8 hT ?_
    refine z8 (z4 (y4 (fun h=>?_) (fun h=>?_)))
    ·have h:=k0q (show decide (j<(((bx a2).length:Nat):Int))=true from h)
     have hk:k<a2.length:=by omega
     have hkB:k<B.length:=by omega
     refine z5 ?_
     have hxa:=k0x hk
     have hxb:=k0x hkB
     have hst:=W3 c hxa hxb
     have hlb:=hBc _ (k1x hkB)
     generalize a2[k]=x at hxa hst
     generalize B[k]=b at hxb hst hlb
     have hxp:(bx a2)[j.toNat]?=some [u8 x]:=by rw[hj,k0v];exact u7 hxa
     have hbp:(z2 B)[0+j.toNat]?=some [bP b]:=by rw[hj,k0v,Nat.zero_add];exact Q0 hxb
     have hml:=Q8 (B:=B) a2 hBc (k:=k) (by omega)
     have w:=wadd (x9 a2 B c k) b x hml hlb
     rw[hml,← hst]at w
     refine z7 ⟨⟨65,[(0,.p (.sl 1 (z2 [a0,a1,a2]))),(1,.msl 0 1 0 q),(6,.p (.box F)),(7,.msl 1 1 0 3),(37,.p (.sl 1 (z2 [a0,a1,a2]))),(38,i64 3),(8,i64 2),(39,i64 2),(44,bA a2),(45,i64 (bx a2).length),(46,i64 j)]⟩,[.row z0 1 (z2 B),.cells z0 [.msl 2 1 0 c,.msl 3 1 0 c,.msl 4 1 0 c],.row z1 1 (bx (x9 a0 B c q)),.row z1 1 (bx (x9 a1 B c q)),.row z1 1 (bx (x9 a2 B c (k+1)))]⟩ True (z3 (q8 hT ?_)) (fun _=>?_)
     ·refine⟨by omega,w9 hxp ?_⟩
      refine v7 [10] [] hT y5 (by rfl) ?_
      refine⟨by decide,?_⟩
      refine⟨⟨by omega,by omega⟩,?_⟩
      refine w9 hbp ?_
      refine⟨_,_,Q7 [4] w rfl rfl rfl,?_⟩
      repeat first|refine⟨rfl,?_⟩|refine⟨⟨by decide,rfl⟩,?_⟩|refine⟨⟨⟨by omega,by omega⟩,rfl⟩,?_⟩|refine⟨w9 hbp rfl,?_⟩
      exact⟨q7 [0,1,2,3,4] [0,1,6,7,37,38,8,39,44,45,46] rfl,trivial⟩
     ·refine q9 hT ?_
      exact⟨n2 - 1,by omega,_,q7 [0,1,2,3,4] [0,1,6,7,37,38,8,39,44,45,46] rfl,k+1,IntKind.i64.wrap (j+1),by omega,by rw[y8 _ (by omega) (by omega)];omega,rfl⟩
    ·have h:=k0z (show decide (j<(((bx a2).length:Nat):Int))=false from h)
     rw[show k=q by omega]
     refine x6 ?_
     exact⟨q7 [0,1,2,3,4] [0,1,6,7,37,38,8,39] rfl,trivial⟩
   ·refine q9 hT ?_
    exact⟨0,by decide,_,q7 [0,1,2,3,4] [0,1,6,7,37,38,39] rfl,(.inr (.inr (.inr ⟨rfl,rfl⟩)))⟩
  ·refine q8 hT ?_
   refine z8 (z4 ?_)
   refine x6 ?_
   exact⟨q7 [0,1,2,3,4] [7] rfl,trivial⟩
 refine u6 (X2 2 1 0 c rfl rfl rfl (by rw[w6,hmk0])) ?_
 refine u6 (X2 3 1 1 c rfl rfl rfl (by rw[w6,hmk1])) ?_
 refine u6 (X2 4 1 2 c rfl rfl rfl (by rw[w6,hmk2])) ?_
 refine u6 (U3 1 [bP (x9 a0 B c q),bP (x9 a1 B c q),bP (x9 a2 B c q)] rfl rfl (show 3≤140737488355328 by decide)) ?_
 refine u6 (Z6 7 1 _ rfl rfl rfl rfl) ?_
 refine q8 hT ?_
 refine y9 ?_
 exact z9 [0] ⟨rfl,rfl⟩ rfl
theorem v2j (a0 a1 a2 a3:z6)(B:List z6)(q c:Nat)(q1:1≤q)(q2:q≤64)(c1:1≤c)(c2:c≤4096)(hA:∀ s∈([a0,a1,a2,a3]:List z6),s.length=q)(hB:B.length=q)(hBc:∀ s∈B,s.length=c) :
 AFm Tryz.prog 1 J6 [.p (.sl 1 (z2 [a0,a1,a2,a3])),.msl 0 1 0 q] [.row z0 1 (z2 B)] (v8 (.tup [.p (.sl 1 (z2 [x9 a0 B c q,x9 a1 B c q,x9 a2 B c q,x9 a3 B c q])),i64 0]) [.row z0 1 (z2 B)]):=by
 have wA:=J2 [a0,a1,a2,a3] q (show 1≤4 by decide) (show 4≤64 by decide) q1 (by omega) hA
 have wB:=J2 B c (by omega) (by omega) c1 c2 hBc
 have wn:=q3h
 have hcl:=u5 B
 have h0:=k0x (show 0<B.length by omega)
 have hc0:=hBc _ (k1x (show 0<B.length by omega))
 generalize B[0]=b0 at h0 hc0
 have hx0:(z2 B)[0+(0:Int).toNat]?=some [bP b0]:=Q0 h0
 have hb0:=w6 b0
 have wf:=z2h q0q (bx b0).length (by omega) (fun _ _=>0) (fun i k _ _=>q3q i k)
 have ha0:a0.length=q:=hA a0 (by simp)
 have hx10:=w6 a0
 have ha1:a1.length=q:=hA a1 (by simp)
 have hx11:=w6 a1
 have ha2:a2.length=q:=hA a2 (by simp)
 have hx12:=w6 a2
 have ha3:a3.length=q:=hA a3 (by simp)
 have hx13:=w6 a3
 have hmk0:=Q8 (B:=B) a0 hBc (k:=q) (by omega)
 have hmk1:=Q8 (B:=B) a1 hBc (k:=q) (by omega)
 have hmk2:=Q8 (B:=B) a2 hBc (k:=q) (by omega)
 have hmk3:=Q8 (B:=B) a3 hBc (k:=q) (by omega)
 have wadd:=fun(to row:z6) (x:UInt8) (ht:to.length=c) (hr:row.length=c)=>q5u to row x (by omega) (by omega)
 unfold q2s at wn wadd
 generalize fP=F at wn wadd
 refine Q5 1 hT q3k rfl rfl q3m rfl rfl ?_
 refine q8 hT ?_
 have lend:=q9z wB 0 (H:=[.row z0 1 (z2 B)]) (args:=[.msl 0 1 0 q]) (t:=z0) (sz:=1) (xs:=z2 B) rfl ⟨.inr (.inl ⟨congrArg (AV.msl 0 1 0) (show q=(z2 B).length by omega),rfl⟩),trivial⟩ rfl (fun k hk=>by simp at hk)
 refine z7 ⟨⟨65,[(0,.p (.sl 1 (z2 [a0,a1,a2,a3]))),(1,.msl 0 1 0 q)]⟩,[.row z0 1 (z2 B)]⟩ True (q8 hT ?_) (fun _=>?_)
 ·refine x7 (w7 wA _ rfl rfl) ?_
  refine x7 lend ?_
  refine⟨by decide,w9 rfl ?_⟩
  refine z4 (y4 (fun h=>?_) (fun h=>?_))
  ·have h:((((bx a0).length:Nat):Int) != ((q:Nat):Int))=true:=h
   rw[bne_iff_ne]at h
   omega
  exact z5 ⟨q7 [0] [0,1] rfl,trivial⟩
 refine q8 hT ?_
 refine x7 (w7 wn _ rfl rfl) ?_
 refine y6 (fun st=>∃ c',c'=c∧st=⟨⟨65,[(0,.p (.sl 1 (z2 [a0,a1,a2,a3]))),(1,.msl 0 1 0 q),(6,.p (.box F)),(7,.msl 1 1 0 4)]⟩,[.row z0 1 (z2 B),.cells z0 [.msl 2 1 0 c',.msl 3 1 0 c',.msl 4 1 0 c',.msl 5 1 0 c'],.row z1 1 (bx (v9 (fun _ _=>0) c' 0)),.row z1 1 (bx (v9 (fun _ _=>0) c' 1)),.row z1 1 (bx (v9 (fun _ _=>0) c' 2)),.row z1 1 (bx (v9 (fun _ _=>0) c' 3))]⟩) (q9 hT ?_) ?_
 ·refine⟨⟨by decide,by omega⟩,?_⟩
  refine w9 hx0 ?_
  refine x7 (q2j wf _ rfl) ?_
  exact⟨_,q7 [0,1,2,3,4,5] [0,1,6,7] rfl,_,hb0.trans hc0,rfl⟩
 rintro _ ⟨c,rfl,rfl⟩
 clear wf
 refine z7 ⟨⟨65,[(7,.msl 1 1 0 4)]⟩,[.row z0 1 (z2 B),.cells z0 [.msl 2 1 0 c,.msl 3 1 0 c,.msl 4 1 0 c,.msl 5 1 0 c],.row z1 1 (bx (x9 a0 B c q)),.row z1 1 (bx (x9 a1 B c q)),.row z1 1 (bx (x9 a2 B c q)),.row z1 1 (bx (x9 a3 B c q))]⟩ True (q8 hT ?_) (fun _=>?_)
 ·refine z3 ?_
  refine y7 (fun n s=>(n=4∧s=⟨⟨65,[(0,.p (.sl 1 (z2 [a0,a1,a2,a3]))),(1,.msl 0 1 0 q),(6,.p (.box F)),(7,.msl 1 1 0 4),(37,.p (.sl 1 (z2 [a0,a1,a2,a3]))),(38,i64 4),(39,i64 0)]⟩,[.row z0 1 (z2 B),.cells z0 [.msl 2 1 0 c,.msl 3 1 0 c,.msl 4 1 0 c,.msl 5 1 0 c],.row z1 1 (bx (x9 a0 B c 0)),.row z1 1 (bx (x9 a1 B c 0)),.row z1 1 (bx (x9 a2 B c 0)),.row z1 1 (bx (x9 a3 B c 0))]⟩)∨(n=3∧s=⟨⟨65,[(0,.p (.sl 1 (z2 [a0,a1,a2,a3]))),(1,.msl 0 1 0 q),(6,.p (.box F)),(7,.msl 1 1 0 4),(37,.p (.sl 1 (z2 [a0,a1,a2,a3]))),(38,i64 4),(39,i64 1)]⟩,[.row z0 1 (z2 B),.cells z0 [.msl 2 1 0 c,.msl 3 1 0 c,.msl 4 1 0 c,.msl 5 1 0 c],.row z1 1 (bx (x9 a0 B c q)),.row z1 1 (bx (x9 a1 B c 0)),.row z1 1 (bx (x9 a2 B c 0)),.row z1 1 (bx (x9 a3 B c 0))]⟩)∨(n=2∧s=⟨⟨65,[(0,.p (.sl 1 (z2 [a0,a1,a2,a3]))),(1,.msl 0 1 0 q),(6,.p (.box F)),(7,.msl 1 1 0 4),(37,.p (.sl 1 (z2 [a0,a1,a2,a3]))),(38,i64 4),(39,i64 2)]⟩,[.row z0 1 (z2 B),.cells z0 [.msl 2 1 0 c,.msl 3 1 0 c,.msl 4 1 0 c,.msl 5 1 0 c],.row z1 1 (bx (x9 a0 B c q)),.row z1 1 (bx (x9 a1 B c q)),.row z1 1 (bx (x9 a2 B c 0)),.row z1 1 (bx (x9 a3 B c 0))]⟩)∨(n=1∧s=⟨⟨65,[(0,.p (.sl 1 (z2 [a0,a1,a2,a3]))),(1,.msl 0 1 0 q),(6,.p (.box F)),(7,.msl 1 1 0 4),(37,.p (.sl 1 (z2 [a0,a1,a2,a3]))),(38,i64 4),(39,i64 3)]⟩,[.row z0 1 (z2 B),.cells z0 [.msl 2 1 0 c,.msl 3 1 0 c,.msl 4 1 0 c,.msl 5 1 0 c],.row z1 1 (bx (x9 a0 B c q)),.row z1 1 (bx (x9 a1 B c q)),.row z1 1 (bx (x9 a2 B c q)),.row z1 1 (bx (x9 a3 B c 0))]⟩)∨(n=0∧s=⟨⟨65,[(0,.p (.sl 1 (z2 [a0,a1,a2,a3]))),(1,.msl 0 1 0 q),(6,.p (.box F)),(7,.msl 1 1 0 4),(37,.p (.sl 1 (z2 [a0,a1,a2,a3]))),(38,i64 4),(39,i64 4)]⟩,[.row z0 1 (z2 B),.cells z0 [.msl 2 1 0 c,.msl 3 1 0 c,.msl 4 1 0 c,.msl 5 1 0 c],.row z1 1 (bx (x9 a0 B c q)),.row z1 1 (bx (x9 a1 B c q)),.row z1 1 (bx (x9 a2 B c q)),.row z1 1 (bx (x9 a3 B c q))]⟩)) 4 ⟨⟨65,_⟩,_⟩ (q7 [0,1,2,3,4,5] [0,1,6,7,37,38,39] rfl) (.inl ⟨rfl,by rw[q3r a0 B c 0,q3r a1 B c 1,q3r a2 B c 2,q3r a3 B c 3];rfl⟩) ?_
  rintro n s (⟨rfl,rfl⟩|⟨rfl,rfl⟩|⟨rfl,rfl⟩|⟨rfl,rfl⟩|⟨rfl,rfl⟩)
  ·refine q8 hT ?_
   refine z8 (z4 ?_)
   refine z5 ?_
   refine z7 ⟨⟨65,[(0,.p (.sl 1 (z2 [a0,a1,a2,a3]))),(1,.msl 0 1 0 q),(6,.p (.box F)),(7,.msl 1 1 0 4),(37,.p (.sl 1 (z2 [a0,a1,a2,a3]))),(38,i64 4),(8,i64 0),(39,i64 0)]⟩,[.row z0 1 (z2 B),.cells z0 [.msl 2 1 0 c,.msl 3 1 0 c,.msl 4 1 0 c,.msl 5 1 0 c],.row z1 1 (bx (x9 a0 B c q)),.row z1 1 (bx (x9 a1 B c 0)),.row z1 1 (bx (x9 a2 B c 0)),.row z1 1 (bx (x9 a3 B c 0))]⟩ True (z3 ?_) (fun _=>?_)
   ·refine q8 hT ?_
    refine⟨by decide,w9 rfl ?_⟩
    refine q8 hT ?_
    refine z3 ?_
    refine y7 (fun n s=>∃ (k:Nat) (j:Int),n+k=q∧j=k∧s=⟨⟨65,[(0,.p (.sl 1 (z2 [a0,a1,a2,a3]))),(1,.msl 0 1 0 q),(6,.p (.box F)),(7,.msl 1 1 0 4),(37,.p (.sl 1 (z2 [a0,a1,a2,a3]))),(38,i64 4),(8,i64 0),(39,i64 0),(44,bA a0),(45,i64 (bx a0).length),(46,i64 j)]⟩,[.row z0 1 (z2 B),.cells z0 [.msl 2 1 0 c,.msl 3 1 0 c,.msl 4 1 0 c,.msl 5 1 0 c],.row z1 1 (bx (x9 a0 B c k)),.row z1 1 (bx (x9 a1 B c 0)),.row z1 1 (bx (x9 a2 B c 0)),.row z1 1 (bx (x9 a3 B c 0))]⟩) q ⟨⟨65,_⟩,_⟩ (q7 [0,1,2,3,4,5] [0,1,6,7,37,38,8,39,44,45,46] rfl) ⟨0,0,by omega,rfl,rfl⟩ ?_
    rintro n2 s ⟨k,j,hnk,hj,rfl⟩
    refine q8 hT ?_
    refine z8 (z4 (y4 (fun h=>?_) (fun h=>?_)))
    ·have h:=k0q (show decide (j<(((bx a0).length:Nat):Int))=true from h)
     have hk:k<a0.length:=by omega
     have hkB:k<B.length:=by omega
     refine z5 ?_
     have hxa:=k0x hk
     have hxb:=k0x hkB
     have hst:=W3 c hxa hxb
     have hlb:=hBc _ (k1x hkB)
     generalize a0[k]=x at hxa hst
     generalize B[k]=b at hxb hst hlb
     have hxp:(bx a0)[j.toNat]?=some [u8 x]:=by rw[hj,k0v];exact u7 hxa
     have hbp:(z2 B)[0+j.toNat]?=some [bP b]:=by rw[hj,k0v,Nat.zero_add];exact Q0 hxb
     have hml:=Q8 (B:=B) a0 hBc (k:=k) (by omega)
     have w:=wadd (x9 a0 B c k) b x hml hlb
     rw[hml,← hst]at w
     refine z7 ⟨⟨65,[(0,.p (.sl 1 (z2 [a0,a1,a2,a3]))),(1,.msl 0 1 0 q),(6,.p (.box F)),(7,.msl 1 1 0 4),(37,.p (.sl 1 (z2 [a0,a1,a2,a3]))),(38,i64 4),(8,i64 0),(39,i64 0),(44,bA a0),(45,i64 (bx a0).length),(46,i64 j)]⟩,[.row z0 1 (z2 B),.cells z0 [.msl 2 1 0 c,.msl 3 1 0 c,.msl 4 1 0 c,.msl 5 1 0 c],.row z1 1 (bx (x9 a0 B c (k+1))),.row z1 1 (bx (x9 a1 B c 0)),.row z1 1 (bx (x9 a2 B c 0)),.row z1 1 (bx (x9 a3 B c 0))]⟩ True (z3 (q8 hT ?_)) (fun _=>?_)
     ·refine⟨by omega,w9 hxp ?_⟩
      refine v7 [10] [] hT y5 (by rfl) ?_
      refine⟨by decide,?_⟩
      refine⟨⟨by omega,by omega⟩,?_⟩
      refine w9 hbp ?_
      refine⟨_,_,Q7 [2] w rfl rfl rfl,?_⟩
      repeat first|refine⟨rfl,?_⟩|refine⟨⟨by decide,rfl⟩,?_⟩|refine⟨⟨⟨by omega,by omega⟩,rfl⟩,?_⟩|refine⟨w9 hbp rfl,?_⟩
      exact⟨q7 [0,1,2,3,4,5] [0,1,6,7,37,38,8,39,44,45,46] rfl,trivial⟩
     ·refine q9 hT ?_
      exact⟨n2 - 1,by omega,_,q7 [0,1,2,3,4,5] [0,1,6,7,37,38,8,39,44,45,46] rfl,k+1,IntKind.i64.wrap (j+1),by omega,by rw[y8 _ (by omega) (by omega)];omega,rfl⟩
    ·have h:=k0z (show decide (j<(((bx a0).length:Nat):Int))=false from h)
     rw[show k=q by omega]
     refine x6 ?_
     exact⟨q7 [0,1,2,3,4,5] [0,1,6,7,37,38,8,39] rfl,trivial⟩
   ·refine q9 hT ?_
    exact⟨3,by decide,_,q7 [0,1,2,3,4,5] [0,1,6,7,37,38,39] rfl,(.inr (.inl ⟨rfl,rfl⟩))⟩
  ·refine q8 hT ?_
   refine z8 (z4 ?_)
   refine z5 ?_
   refine z7 ⟨⟨65,[(0,.p (.sl 1 (z2 [a0,a1,a2,a3]))),(1,.msl 0 1 0 q),(6,.p (.box F)),(7,.msl 1 1 0 4),(37,.p (.sl 1 (z2 [a0,a1,a2,a3]))),(38,i64 4),(8,i64 1),(39,i64 1)]⟩,[.row z0 1 (z2 B),.cells z0 [.msl 2 1 0 c,.msl 3 1 0 c,.msl 4 1 0 c,.msl 5 1 0 c],.row z1 1 (bx (x9 a0 B c q)),.row z1 1 (bx (x9 a1 B c q)),.row z1 1 (bx (x9 a2 B c 0)),.row z1 1 (bx (x9 a3 B c 0))]⟩ True (z3 ?_) (fun _=>?_)
   ·refine q8 hT ?_
    refine⟨by decide,w9 rfl ?_⟩
    refine q8 hT ?_
    refine z3 ?_
    refine y7 (fun n s=>∃ (k:Nat) (j:Int),n+k=q∧j=k∧s=⟨⟨65,[(0,.p (.sl 1 (z2 [a0,a1,a2,a3]))),(1,.msl 0 1 0 q),(6,.p (.box F)),(7,.msl 1 1 0 4),(37,.p (.sl 1 (z2 [a0,a1,a2,a3]))),(38,i64 4),(8,i64 1),(39,i64 1),(44,bA a1),(45,i64 (bx a1).length),(46,i64 j)]⟩,[.row z0 1 (z2 B),.cells z0 [.msl 2 1 0 c,.msl 3 1 0 c,.msl 4 1 0 c,.msl 5 1 0 c],.row z1 1 (bx (x9 a0 B c q)),.row z1 1 (bx (x9 a1 B c k)),.row z1 1 (bx (x9 a2 B c 0)),.row z1 1 (bx (x9 a3 B c 0))]⟩) q ⟨⟨65,_⟩,_⟩ (q7 [0,1,2,3,4,5] [0,1,6,7,37,38,8,39,44,45,46] rfl) ⟨0,0,by omega,rfl,rfl⟩ ?_
    rintro n2 s ⟨k,j,hnk,hj,rfl⟩
    refine q8 hT ?_
    refine z8 (z4 (y4 (fun h=>?_) (fun h=>?_)))
    ·have h:=k0q (show decide (j<(((bx a1).length:Nat):Int))=true from h)
     have hk:k<a1.length:=by omega
     have hkB:k<B.length:=by omega
     refine z5 ?_
     have hxa:=k0x hk
     have hxb:=k0x hkB
     have hst:=W3 c hxa hxb
     have hlb:=hBc _ (k1x hkB)
     generalize a1[k]=x at hxa hst
     generalize B[k]=b at hxb hst hlb
     have hxp:(bx a1)[j.toNat]?=some [u8 x]:=by rw[hj,k0v];exact u7 hxa
     have hbp:(z2 B)[0+j.toNat]?=some [bP b]:=by rw[hj,k0v,Nat.zero_add];exact Q0 hxb
     have hml:=Q8 (B:=B) a1 hBc (k:=k) (by omega)
     have w:=wadd (x9 a1 B c k) b x hml hlb
     rw[hml,← hst]at w
     refine z7 ⟨⟨65,[(0,.p (.sl 1 (z2 [a0,a1,a2,a3]))),(1,.msl 0 1 0 q),(6,.p (.box F)),(7,.msl 1 1 0 4),(37,.p (.sl 1 (z2 [a0,a1,a2,a3]))),(38,i64 4),(8,i64 1),(39,i64 1),(44,bA a1),(45,i64 (bx a1).length),(46,i64 j)]⟩,[.row z0 1 (z2 B),.cells z0 [.msl 2 1 0 c,.msl 3 1 0 c,.msl 4 1 0 c,.msl 5 1 0 c],.row z1 1 (bx (x9 a0 B c q)),.row z1 1 (bx (x9 a1 B c (k+1))),.row z1 1 (bx (x9 a2 B c 0)),.row z1 1 (bx (x9 a3 B c 0))]⟩ True (z3 (q8 hT ?_)) (fun _=>?_)
     ·refine⟨by omega,w9 hxp ?_⟩
      refine v7 [10] [] hT y5 (by rfl) ?_
      refine⟨by decide,?_⟩
      refine⟨⟨by omega,by omega⟩,?_⟩
      refine w9 hbp ?_
      refine⟨_,_,Q7 [3] w rfl rfl rfl,?_⟩
      repeat first|refine⟨rfl,?_⟩|refine⟨⟨by decide,rfl⟩,?_⟩|refine⟨⟨⟨by omega,by omega⟩,rfl⟩,?_⟩|refine⟨w9 hbp rfl,?_⟩
      exact⟨q7 [0,1,2,3,4,5] [0,1,6,7,37,38,8,39,44,45,46] rfl,trivial⟩
     ·refine q9 hT ?_
      exact⟨n2 - 1,by omega,_,q7 [0,1,2,3,4,5] [0,1,6,7,37,38,8,39,44,45,46] rfl,k+1,IntKind.i64.wrap (j+1),by omega,by rw[y8 _ (by omega) (by omega)];omega,rfl⟩
    ·have h:=k0z (show decide (j<(((bx a1).length:Nat):Int))=false from h)
     rw[show k=q by omega]
     refine x6 ?_
     exact⟨q7 [0,1,2,3,4,5] [0,1,6,7,37,38,8,39] rfl,trivial⟩
   ·refine q9 hT ?_
    exact⟨2,by decide,_,q7 [0,1,2,3,4,5] [0,1,6,7,37,38,39] rfl,(.inr (.inr (.inl ⟨rfl,rfl⟩)))⟩
  ·refine q8 hT ?_
   refine z8 (z4 ?_)
   refine z5 ?_
   refine z7 ⟨⟨65,[(0,.p (.sl 1 (z2 [a0,a1,a2,a3]))),(1,.msl 0 1 0 q),(6,.p (.box F)),(7,.msl 1 1 0 4),(37,.p (.sl 1 (z2 [a0,a1,a2,a3]))),(38,i64 4),(8,i64 2),(39,i64 2)]⟩,[.row z0 1 (z2 B),.cells z0 [.msl 2 1 0 c,.msl 3 1 0 c,.msl 4 1 0 c,.msl 5 1 0 c],.row z1 1 (bx (x9 a0 B c q)),.row z1 1 (bx (x9 a1 B c q)),.row z1 1 (bx (x9 a2 B c q)),.row z1 1 (bx (x9 a3 B c 0))]⟩ True (z3 ?_) (fun _=>?_)
   ·refine q8 hT ?_
    refine⟨by decide,w9 rfl ?_⟩
    refine q8 hT ?_
    refine z3 ?_
    refine y7 (fun n s=>∃ (k:Nat) (j:Int),n+k=q∧j=k∧s=⟨⟨65,[(0,.p (.sl 1 (z2 [a0,a1,a2,a3]))),(1,.msl 0 1 0 q),(6,.p (.box F)),(7,.msl 1 1 0 4),(37,.p (.sl 1 (z2 [a0,a1,a2,a3]))),(38,i64 4),(8,i64 2),(39,i64 2),(44,bA a2),(45,i64 (bx a2).length),(46,i64 j)]⟩,[.row z0 1 (z2 B),.cells z0 [.msl 2 1 0 c,.msl 3 1 0 c,.msl 4 1 0 c,.msl 5 1 0 c],.row z1 1 (bx (x9 a0 B c q)),.row z1 1 (bx (x9 a1 B c q)),.row z1 1 (bx (x9 a2 B c k)),.row z1 1 (bx (x9 a3 B c 0))]⟩) q ⟨⟨65,_⟩,_⟩ (q7 [0,1,2,3,4,5] [0,1,6,7,37,38,8,39,44,45,46] rfl) ⟨0,0,by omega,rfl,rfl⟩ ?_
    rintro n2 s ⟨k,j,hnk,hj,rfl⟩
    refine q8 hT ?_
    refine z8 (z4 (y4 (fun h=>?_) (fun h=>?_)))
    ·have h:=k0q (show decide (j<(((bx a2).length:Nat):Int))=true from h)
     have hk:k<a2.length:=by omega
     have hkB:k<B.length:=by omega
     refine z5 ?_
     have hxa:=k0x hk
     have hxb:=k0x hkB
     have hst:=W3 c hxa hxb
     have hlb:=hBc _ (k1x hkB)
     generalize a2[k]=x at hxa hst
     generalize B[k]=b at hxb hst hlb
     have hxp:(bx a2)[j.toNat]?=some [u8 x]:=by rw[hj,k0v];exact u7 hxa
     have hbp:(z2 B)[0+j.toNat]?=some [bP b]:=by rw[hj,k0v,Nat.zero_add];exact Q0 hxb
     have hml:=Q8 (B:=B) a2 hBc (k:=k) (by omega)
     have w:=wadd (x9 a2 B c k) b x hml hlb
     rw[hml,← hst]at w
     refine z7 ⟨⟨65,[(0,.p (.sl 1 (z2 [a0,a1,a2,a3]))),(1,.msl 0 1 0 q),(6,.p (.box F)),(7,.msl 1 1 0 4),(37,.p (.sl 1 (z2 [a0,a1,a2,a3]))),(38,i64 4),(8,i64 2),(39,i64 2),(44,bA a2),(45,i64 (bx a2).length),(46,i64 j)]⟩,[.row z0 1 (z2 B),.cells z0 [.msl 2 1 0 c,.msl 3 1 0 c,.msl 4 1 0 c,.msl 5 1 0 c],.row z1 1 (bx (x9 a0 B c q)),.row z1 1 (bx (x9 a1 B c q)),.row z1 1 (bx (x9 a2 B c (k+1))),.row z1 1 (bx (x9 a3 B c 0))]⟩ True (z3 (q8 hT ?_)) (fun _=>?_)
     ·refine⟨by omega,w9 hxp ?_⟩
      refine v7 [10] [] hT y5 (by rfl) ?_
      refine⟨by decide,?_⟩
      refine⟨⟨by omega,by omega⟩,?_⟩
      refine w9 hbp ?_
      refine⟨_,_,Q7 [4] w rfl rfl rfl,?_⟩
      repeat first|refine⟨rfl,?_⟩|refine⟨⟨by decide,rfl⟩,?_⟩|refine⟨⟨⟨by omega,by omega⟩,rfl⟩,?_⟩|refine⟨w9 hbp rfl,?_⟩
      exact⟨q7 [0,1,2,3,4,5] [0,1,6,7,37,38,8,39,44,45,46] rfl,trivial⟩
     ·refine q9 hT ?_
      exact⟨n2 - 1,by omega,_,q7 [0,1,2,3,4,5] [0,1,6,7,37,38,8,39,44,45,46] rfl,k+1,IntKind.i64.wrap (j+1),by omega,by rw[y8 _ (by omega) (by omega)];omega,rfl⟩
    ·have h:=k0z (show decide (j<(((bx a2).length:Nat):Int))=false from h)
     rw[show k=q by omega]
     refine x6 ?_
     exact⟨q7 [0,1,2,3,4,5] [0,1,6,7,37,38,8,39] rfl,trivial⟩
   ·refine q9 hT ?_
    exact⟨1,by decide,_,q7 [0,1,2,3,4,5] [0,1,6,7,37,38,39] rfl,(.inr (.inr (.inr (.inl ⟨rfl,rfl⟩))))⟩
  ·refine q8 hT ?_
   refine z8 (z4 ?_)
   refine z5 ?_
   refine z7 ⟨⟨65,[(0,.p (.sl 1 (z2 [a0,a1,a2,a3]))),(1,.msl 0 1 0 q),(6,.p (.box F)),(7,.msl 1 1 0 4),(37,.p (.sl 1 (z2 [a0,a1,a2,a3]))),(38,i64 4),(8,i64 3),(39,i64 3)]⟩,[.row z0 1 (z2 B),.cells z0 [.msl 2 1 0 c,.msl 3 1 0 c,.msl 4 1 0 c,.msl 5 1 0 c],.row z1 1 (bx (x9 a0 B c q)),.row z1 1 (bx (x9 a1 B c q)),.row z1 1 (bx (x9 a2 B c q)),.row z1 1 (bx (x9 a3 B c q))]⟩ True (z3 ?_) (fun _=>?_)
   ·refine q8 hT ?_
    refine⟨by decide,w9 rfl ?_⟩
    refine q8 hT ?_
    refine z3 ?_
    refine y7 (fun n s=>∃ (k:Nat) (j:Int),n+k=q∧j=k∧s=⟨⟨65,[(0,.p (.sl 1 (z2 [a0,a1,a2,a3]))),(1,.msl 0 1 0 q),(6,.p (.box F)),(7,.msl 1 1 0 4),(37,.p (.sl 1 (z2 [a0,a1,a2,a3]))),(38,i64 4),(8,i64 3),(39,i64 3),(44,bA a3),(45,i64 (bx a3).length),(46,i64 j)]⟩,[.row z0 1 (z2 B),.cells z0 [.msl 2 1 0 c,.msl 3 1 0 c,.msl 4 1 0 c,.msl 5 1 0 c],.row z1 1 (bx (x9 a0 B c q)),.row z1 1 (bx (x9 a1 B c q)),.row z1 1 (bx (x9 a2 B c q)),.row z1 1 (bx (x9 a3 B c k))]⟩) q ⟨⟨65,_⟩,_⟩ (q7 [0,1,2,3,4,5] [0,1,6,7,37,38,8,39,44,45,46] rfl) ⟨0,0,by omega,rfl,rfl⟩ ?_
    rintro n2 s ⟨k,j,hnk,hj,rfl⟩
    refine q8 hT ?_
    refine z8 (z4 (y4 (fun h=>?_) (fun h=>?_)))
    ·have h:=k0q (show decide (j<(((bx a3).length:Nat):Int))=true from h)
     have hk:k<a3.length:=by omega
     have hkB:k<B.length:=by omega
     refine z5 ?_
     have hxa:=k0x hk
     have hxb:=k0x hkB
     have hst:=W3 c hxa hxb
     have hlb:=hBc _ (k1x hkB)
     generalize a3[k]=x at hxa hst
     generalize B[k]=b at hxb hst hlb
     have hxp:(bx a3)[j.toNat]?=some [u8 x]:=by rw[hj,k0v];exact u7 hxa
     have hbp:(z2 B)[0+j.toNat]?=some [bP b]:=by rw[hj,k0v,Nat.zero_add];exact Q0 hxb
     have hml:=Q8 (B:=B) a3 hBc (k:=k) (by omega)
     have w:=wadd (x9 a3 B c k) b x hml hlb
     rw[hml,← hst]at w
     refine z7 ⟨⟨65,[(0,.p (.sl 1 (z2 [a0,a1,a2,a3]))),(1,.msl 0 1 0 q),(6,.p (.box F)),(7,.msl 1 1 0 4),(37,.p (.sl 1 (z2 [a0,a1,a2,a3]))),(38,i64 4),(8,i64 3),(39,i64 3),(44,bA a3),(45,i64 (bx a3).length),(46,i64 j)]⟩,[.row z0 1 (z2 B),.cells z0 [.msl 2 1 0 c,.msl 3 1 0 c,.msl 4 1 0 c,.msl 5 1 0 c],.row z1 1 (bx (x9 a0 B c q)),.row z1 1 (bx (x9 a1 B c q)),.row z1 1 (bx (x9 a2 B c q)),.row z1 1 (bx (x9 a3 B c (k+1)))]⟩ True (z3 (q8 hT ?_)) (fun _=>?_)
     ·refine⟨by omega,w9 hxp ?_⟩
      refine v7 [10] [] hT y5 (by rfl) ?_
      refine⟨by decide,?_⟩
      refine⟨⟨by omega,by omega⟩,?_⟩
      refine w9 hbp ?_
      refine⟨_,_,Q7 [5] w rfl rfl rfl,?_⟩
      repeat first|refine⟨rfl,?_⟩|refine⟨⟨by decide,rfl⟩,?_⟩|refine⟨⟨⟨by omega,by omega⟩,rfl⟩,?_⟩|refine⟨w9 hbp rfl,?_⟩
      exact⟨q7 [0,1,2,3,4,5] [0,1,6,7,37,38,8,39,44,45,46] rfl,trivial⟩
     ·refine q9 hT ?_
      exact⟨n2 - 1,by omega,_,q7 [0,1,2,3,4,5] [0,1,6,7,37,38,8,39,44,45,46] rfl,k+1,IntKind.i64.wrap (j+1),by omega,by rw[y8 _ (by omega) (by omega)];omega,rfl⟩
    ·have h:=k0z (show decide (j<(((bx a3).length:Nat):Int))=false from h)
     rw[show k=q by omega]
     refine x6 ?_
     exact⟨q7 [0,1,2,3,4,5] [0,1,6,7,37,38,8,39] rfl,trivial⟩
   ·refine q9 hT ?_
    exact⟨0,by decide,_,q7 [0,1,2,3,4,5] [0,1,6,7,37,38,39] rfl,(.inr (.inr (.inr (.inr ⟨rfl,rfl⟩))))⟩
  ·refine q8 hT ?_
   refine z8 (z4 ?_)
   refine x6 ?_
   exact⟨q7 [0,1,2,3,4,5] [7] rfl,trivial⟩
 refine u6 (X2 2 1 0 c rfl rfl rfl (by rw[w6,hmk0])) ?_
 refine u6 (X2 3 1 1 c rfl rfl rfl (by rw[w6,hmk1])) ?_
 refine u6 (X2 4 1 2 c rfl rfl rfl (by rw[w6,hmk2])) ?_
 refine u6 (X2 5 1 3 c rfl rfl rfl (by rw[w6,hmk3])) ?_
 refine u6 (U3 1 [bP (x9 a0 B c q),bP (x9 a1 B c q),bP (x9 a2 B c q),bP (x9 a3 B c q)] rfl rfl (show 4≤140737488355328 by decide)) ?_
 refine u6 (Z6 7 1 _ rfl rfl rfl rfl) ?_
 refine q8 hT ?_
 refine y9 ?_
 exact z9 [0] ⟨rfl,rfl⟩ rfl
end Go.Proofs.YtinfbclgkghgaaaGreat.AL
/- The layer 2 (mat): of matrices of up to four rows. -/
namespace Go.Proofs.YtinfbclgkghgaaaGreat.AL
open Go Go.Proofs
theorem v7y (k:Nat)(h1:1≤k)(h4:k≤4):AF Tryz.prog q2m [i64 k] [] (v8 (.tup [.msl 0 1 0 k,i64 0]) [.row z0 1 (z2 ((List.range k).map (v9 idA k)))]):=by
 have:k=1∨k=2∨k=3∨k=4:=by omega
 rcases this with rfl|rfl|rfl|rfl
 ·exact v1u
 ·exact v1v
 ·exact v1w
 ·exact v1x
theorem w2c (m c:Nat)(h1:1≤m)(h3:m≤3)(c1:1≤c)(c2:c≤64):AF Tryz.prog q4k [i64 m,i64 c] [] (v8 (.tup [.p (.sl 1 (z2 ((List.range m).map (v9 (q3x c) c)))),i64 0]) []):=by
 have:m=1∨m=2∨m=3:=by omega
 rcases this with rfl|rfl|rfl
 ·exact w1z c c1 c2
 ·exact w2a c c1 c2
 ·exact w2b c c1 c2
theorem v2k (A B:List z6)(q c:Nat)(h1:1≤A.length)(h4:A.length≤4)(q1:1≤q)(q2:q≤64)(c1:1≤c)(c2:c≤4096)(hA:∀ s∈A,s.length=q)(hB:B.length=q)(hBc:∀ s∈B,s.length=c) :
 AF Tryz.prog J6 [.p (.sl 1 (z2 A)),.p (.sl 1 (z2 B))] [] (v8 (.tup [.msl 0 1 0 A.length,i64 0]) [.row z0 1 (z2 (A.map fun a=>x9 a B c q))]):=by
 match A,h1,h4 with
 |[a0],_,_=>exact v1z a0 B q c q1 q2 c1 c2 hA hB hBc
 |[a0,a1],_,_=>exact v2b a0 a1 B q c q1 q2 c1 c2 hA hB hBc
 |[a0,a1,a2],_,_=>exact v2d a0 a1 a2 B q c q1 q2 c1 c2 hA hB hBc
 |[a0,a1,a2,a3],_,_=>exact v2f a0 a1 a2 a3 B q c q1 q2 c1 c2 hA hB hBc
 |[],h,_=>exact absurd h (by decide)
 |_ :: _ :: _ :: _ :: _ :: _,_,h=>simp at h
theorem v2m (A B:List z6)(q c:Nat)(h1:1≤A.length)(h4:A.length≤4)(q1:1≤q)(q2:q≤64)(c1:1≤c)(c2:c≤4096)(hA:∀ s∈A,s.length=q)(hB:B.length=q)(hBc:∀ s∈B,s.length=c) :
 AFm Tryz.prog 1 J6 [.p (.sl 1 (z2 A)),.msl 0 1 0 q] [.row z0 1 (z2 B)] (v8 (.tup [.p (.sl 1 (z2 (A.map fun a=>x9 a B c q))),i64 0]) [.row z0 1 (z2 B)]):=by
 match A,h1,h4 with
 |[a0],_,_=>exact v2g a0 B q c q1 q2 c1 c2 hA hB hBc
 |[a0,a1],_,_=>exact v2h a0 a1 B q c q1 q2 c1 c2 hA hB hBc
 |[a0,a1,a2],_,_=>exact v2i a0 a1 a2 B q c q1 q2 c1 c2 hA hB hBc
 |[a0,a1,a2,a3],_,_=>exact v2j a0 a1 a2 a3 B q c q1 q2 c1 c2 hA hB hBc
 |[],h,_=>exact absurd h (by decide)
 |_ :: _ :: _ :: _ :: _ :: _,_,h=>simp at h
def z5t (L:List z6):List z6:=(List.range L.length).map (gs L.length L L.length).2
theorem q7s {r:Nat}{L:List z6}(h:L.length=r):z5t L=(List.range r).map (gs r L r).2:=by subst h;rfl
theorem Q4a (f:Nat→z6):(List.range 1).map f=[f 0]:=rfl
theorem Q4b (f:Nat→z6):(List.range 2).map f=[f 0,f 1]:=rfl
theorem Q4c (f:Nat→z6):(List.range 3).map f=[f 0,f 1,f 2]:=rfl
theorem Q4d (f:Nat→z6):(List.range 4).map f=[f 0,f 1,f 2,f 3]:=rfl
theorem v7z (L:List z6)(h1:1≤L.length)(h4:L.length≤4)(hL:∀ s∈L,s.length=L.length)(hok:y0q L.length L=true) :
 AF Tryz.prog q9a [.p (.sl 1 (z2 L))] [] (v8 (.tup [.p (.sl 1 (z2 (z5t L))),i64 0]) []):=by
 match L,h1,h4 with
 |[a0],_,_=>
  rw[q7s (r:=1) rfl,Q4a]
  exact v7u a0 hL hok
 |[a0,a1],_,_=>
  rw[q7s (r:=2) rfl,Q4b]
  exact v7v a0 a1 hL hok
 |[a0,a1,a2],_,_=>
  rw[q7s (r:=3) rfl,Q4c]
  exact v7w a0 a1 a2 hL hok
 |[a0,a1,a2,a3],_,_=>
  rw[q7s (r:=4) rfl,Q4d]
  exact v7x a0 a1 a2 a3 hL hok
 |[],h,_=>exact absurd h (by decide)
 |_ :: _ :: _ :: _ :: _ :: _,_,h=>simp at h
def q6r (k m:Nat):List z6:=(List.range m).map (v9 (q3x k) k)
def Y5 (k m:Nat):List z6:=(List.range k).map (v9 idA k)++q6r k m
theorem q3a (k m:Nat):(q6r k m).length=m:=by unfold q6r;rw[k1y,k3q]
theorem q3s (k m:Nat):(Y5 k m).length=k+m:=by unfold Y5;rw[k1z,k1y,k3q,q3a]
theorem q9j (A:Nat→Nat→UInt8)(c i:Nat):(v9 A c i).length=c:=by unfold v9;rw[k1y,k3q]
theorem y7f {k m:Nat}:∀ s∈q6r k m,s.length=k:=fun s hs=>by
 unfold q6r at hs
 rw[List.mem_map]at hs
 obtain⟨i,_,rfl⟩:=hs
 exact q9j _ _ _
theorem x1x {k m:Nat}:∀ s∈Y5 k m,s.length=k:=fun s hs=>by
 unfold Y5 at hs
 rw[List.mem_append]at hs
 rcases hs with hs|hs
 ·rw[List.mem_map]at hs
  obtain⟨i,_,rfl⟩:=hs
  exact q9j _ _ _
 ·exact y7f s hs
theorem Y1 (l r:List z6):z2 (l++r)=z2 l++z2 r:=by simp[z2]
theorem x1y (l:List z6)(n:Nat):(z2 l).drop n=z2 (l.drop n):=by simp[z2,List.map_drop]
theorem v2n (l:List z6)(n:Nat):(z2 l).take n=z2 (l.take n):=by simp[z2,List.map_take]
theorem w9d (k m:Nat)(k1:1≤k)(k4:k≤4)(m1:1≤m)(m3:m≤3):AF Tryz.prog v0q [i64 k,i64 m] [] (v8 (.tup [.p (.sl 1 (z2 (Y5 k m))),i64 0]) []):=by
 refine AF.mono (R:=fun r H'=>∃ z,z=z2 (Y5 k m)∧r=.tup [.p (.sl 1 z),i64 0]∧H'=[]) ?_ (by rintro r H' ⟨z,rfl,rfl,rfl⟩;exact⟨rfl,rfl⟩)
 have wo:=v7y k k1 k4
 have wc:=w2c m k m1 m3 k1 (by omega)
 have hz:z2 ((List.range k).map (v9 idA k))++z2 (q6r k m)=z2 (Y5 k m):=by unfold Y5;rw[Y1]
 have hol:((List.range k).map (v9 idA k)).length=k:=by rw[k1y,k3q]
 have hcl:=q3a k m
 have wc:AF Tryz.prog q4k [i64 m,i64 k] [] (v8 (.tup [.p (.sl 1 (z2 (q6r k m))),i64 0]) []):=wc
 generalize z2 (Y5 k m)=Z at hz
 generalize (List.range k).map (v9 idA k)=O at wo hz hol
 generalize q6r k m=C at wc hz hcl
 have hocl:=u5 O
 have hccl:=u5 C
 refine v6 hT v0r rfl rfl v0s rfl ?_
 refine q8 hT ?_
 refine z7 ⟨⟨43,[(0,i64 k),(1,i64 m)]⟩,[]⟩ True (q8 hT ?_) (fun _=>?_)
 ·refine y4 (fun h=>?_) (fun h=>?_)
  ·have h:=k0q (show decide ((k:Int)<1)=true from h)
   omega
  refine y4 (fun h=>?_) (fun h=>?_)
  ·have h:=k0q (show decide ((k:Int) > 64)=true from h)
   omega
  refine z4 (y4 (fun h=>?_) (fun h=>?_))
  ·have h:=k0q (show decide ((m:Int) > IntKind.i64.wrap (64 - (k:Int)))=true from h)
   rw[y8 _ (by omega) (by omega)]at h
   omega
  exact z5 ⟨q7 [] [0,1] rfl,trivial⟩
 refine z7 ⟨⟨43,[(0,i64 k),(1,i64 m),(6,.msl 0 1 0 k)]⟩,[.row z0 1 (z2 O)]⟩ True (q9 hT ?_) (fun _=>?_)
 ·refine x7 wo ?_
  exact⟨q7 [0] [0,1,6] rfl,trivial⟩
 refine z8 (q8 hT ?_)
 refine z4 (y4 (fun h=>?_) (fun h=>?_))
 ·have h:((m:Int)==0)=true:=h
  rw[beq_iff_eq]at h
  omega
 refine z5 ?_
 refine q8 hT ?_
 refine x7 (w7 wc _ rfl rfl) ?_
 refine q8 hT ?_
 refine⟨by omega,⟨by show (((z2 O).length:Nat)+(z2 C).length)*24≤_;omega,by omega⟩,?_⟩
 refine u6 (Z6 4 1 _ rfl rfl rfl rfl) ?_
 refine y9 ?_
 exact z9 [] ⟨_,hz,rfl,rfl⟩ rfl
def q1g (data:List z6)(m c:Nat):List z6:=(q6r data.length m).map fun a=>x9 a data c data.length
theorem y7g (data:List z6)(m c:Nat)(k1:1≤data.length)(k4:data.length≤4)(m1:1≤m)(m3:m≤3)(c1:1≤c)(c2:c≤4096)(hc:∀ s∈data,s.length=c) :
 AFm Tryz.prog 1 x8q [.msl 0 1 0 data.length,i64 m] [.row z0 1 (z2 data)] (v8 (.tup [.p (.sl 1 (z2 (q1g data m c))),i64 0]) [.row z0 1 (z2 data)]):=by
 obtain⟨k,hk⟩:∃ k,k=data.length:=⟨_,rfl⟩
 have wr:=w9d k m (by omega) (by omega) m1 m3
 have wm:=J2 data c k1 (by omega) c1 c2 hc
 have hdl:=u5 data
 have lend:=q9z wm 0 (H:=[.row z0 1 (z2 data)]) (args:=[.msl 0 1 0 k]) (t:=z0) (sz:=1) (xs:=z2 data) rfl ⟨.inr (.inl ⟨congrArg (AV.msl 0 1 0) (show k=(z2 data).length by omega),rfl⟩),trivial⟩ rfl (fun k hk=>by simp at hk)
 have wx:=v2m (q6r k m) data k c (by rw[q3a];exact m1) (by rw[q3a];omega) (by omega) (by omega) c1 c2 y7f hk.symm hc
 have hE:q1g data m c=(q6r k m).map fun a=>x9 a data c k:=by unfold q1g;rw[← hk]
 rw[← hE]at wx
 rw[← hk]
 have hrl:=q3s k m
 have hrc:=u5 (Y5 k m)
 have hsl:((z2 (Y5 k m)).take (((z2 (Y5 k m)).length:Nat):Int).toNat).drop ((k:Nat):Int).toNat=z2 (q6r k m):=by
  simp only[Int.toNat_natCast]
  rw[List.take_length,x1y]
  unfold Y5
  rw[List.drop_left' (by rw[k1y,k3q])]
 rw[← hsl]at wx
 generalize q1g data m c=E at wx ⊢
 generalize z2 (Y5 k m)=R at wr wx hrc
 refine Q5 1 hT x8r rfl rfl x8s rfl rfl ?_
 refine q8 hT ?_
 refine z7 ⟨⟨34,[(0,.msl 0 1 0 k),(1,i64 m),(6,.p (.sl 1 R)),(7,i64 0)]⟩,[.row z0 1 (z2 data)]⟩ True (q9 hT ?_) (fun _=>?_)
 ·refine x7 (w7 wr _ rfl rfl) ?_
  exact⟨q7 [0] [0,1,6,7] rfl,trivial⟩
 refine z7 ⟨⟨34,[(0,.msl 0 1 0 k),(1,i64 m),(6,.p (.sl 1 R))]⟩,[.row z0 1 (z2 data)]⟩ True (z3 (q8 hT ?_)) (fun _=>?_)
 ·refine x7 lend ?_
  refine z4 ?_
  refine q8 hT ?_
  refine z4 (y4 (fun h=>?_) (fun h=>?_))
  ·have h:((m:Int)==0)=true:=h
   rw[beq_iff_eq]at h
   omega
  exact z5 ⟨q7 [0] [0,1,6] rfl,trivial⟩
 refine q8 hT ?_
 refine⟨⟨by omega,by omega,Int.le_refl _⟩,?_⟩
 refine x7 (Q7 [0] wx rfl rfl rfl) ?_
 refine y9 ?_
 exact z9 [0] ⟨rfl,rfl⟩ rfl
abbrev Pc.four (p:Pc):List Int:=[p.frm,p.chain,p.index,p.of_]
end Go.Proofs.YtinfbclgkghgaaaGreat.AL
namespace Go.Proofs.YtinfbclgkghgaaaGreat.AL
open Go Go.Proofs Go.Proofs.YtinfbclgkghgaaaGreat.AL.Crc
def Pc.zero:Pc:=⟨0,0,0,0,0,0,[]⟩
theorem v2p {g:GeoV}(hg:g.may=true){m:Int}(m0:0≤m)(m2:m<2){q:Int}(q0:0≤q):4≤q3p g m (q.tmod g.w)∧q3p g m (q.tmod g.w)<4+2*g.w∧Y2 (q3p g m (q.tmod g.w))=true:=by
 obtain⟨g1,g2,_⟩:=g.of_may hg
 have h1:=Int.tmod_nonneg (a:=q) g.w (by omega)
 have h2:=Int.tmod_lt_of_pos q (show 0<g.w by omega)
 unfold q3p Y2
 have:m=0∨m=1:=by omega
 rcases this with rfl|rfl
 ·refine⟨by omega,by omega,?_⟩
  simp only[Bool.and_eq_true,decide_eq_true_eq];omega
 ·refine⟨by omega,by omega,?_⟩
  simp only[Bool.and_eq_true,decide_eq_true_eq];omega
theorem y7h {p:Pc}{vol:Int}{g:GeoV}{m:Int}(hp:p.may=true)(hg:g.may=true)(hv:Y2 vol=true)(m0:0≤m)(m2:m<2) :
 p.sector vol g m=(q0k (p.blk vol g m).all,0)∧Y8 (q0k (p.blk vol g m).all)=(p.blk vol g m,0):=by
 have hl:=w9a hp
 obtain⟨h1,h2,_⟩:=p.of_may hp
 have hn:(p.blk vol g m).nums=true:=by
  unfold Blk.nums Pc.blk
  have ha:=(v2p hg m0 m2 (q:=p.seq) h1.1).2.2
  simp only[List.all_cons,List.all_nil,Bool.and_eq_true,decide_eq_true_eq]
  have w1:Y2 p.epoch=true:=by unfold Y2;simp only[Bool.and_eq_true,decide_eq_true_eq];omega
  have w2:Y2 p.seq=true:=by unfold Y2;simp only[Bool.and_eq_true,decide_eq_true_eq];omega
  exact⟨by decide,hv,ha,w1,w2,trivial⟩
 have hb:(p.blk vol g m).body.length≤228:=by show (pcB p).length≤228;omega
 refine⟨?_,y0p hn hb⟩
 unfold Pc.sector
 rw[hp,hg,hv,k1t (show ¬ m<0 by omega),k1t (show ¬ m≥2 by omega)]
 show (p.blk vol g m).sld=_
 unfold Blk.sld
 rw[hn,k1t (show ¬ (p.blk vol g m).body.length > 228 by omega)]
end Go.Proofs.YtinfbclgkghgaaaGreat.AL
namespace Go.Proofs.YtinfbclgkghgaaaGreat.AL
open Go Go.Proofs
abbrev q9k (S R:List (List PV))(long:Int):ABlk:=.cells v6d [.p (.sl 1 S),.p (.sl 1 R),i64 long]
theorem w2d (S:List z6)(R:List (List PV))(long:Int)(i:Nat)(s:z6)(hs:S[i]?=some s):AFm Tryz.prog 1 z4u [.ref 0 0,i64 i] [q9k (z2 S) R long] (v8 (bl (decide (0<s.length))) [q9k (z2 S) R long]):=by
 refine AFm.mono (R:=fun r H'=>∃ z,z=decide (0<s.length)∧r=bl z∧H'=[q9k (z2 S) R long]) ?_ (by rintro r H' ⟨z,rfl,rfl,rfl⟩;exact⟨rfl,rfl⟩)
 have hb:=w6 s
 have hx:(z2 S)[((i:Nat):Int).toNat]?=some [bP s]:=by rw[k0v];exact Q0 hs
 refine Q5 1 hT y9f rfl rfl y9g rfl rfl ?_
 refine q8 hT ?_
 refine q8 hT ?_
 refine⟨by omega,w9 hx ?_⟩
 refine y9 ?_
 refine z9 [0] ⟨decide ((((bx s).length:Nat):Int) > 0),?_,rfl,rfl⟩ rfl
 rw[hb]
 by_cases h:0<s.length
 ·rw[k1u h,k1u (by omega)]
 ·rw[k1t h,k1t (by omega)]
def q8m (S:List z6)(c:Nat):Int:=match S.any (fun s=>decide (0<s.length)) with|true=>c|false=>0
theorem w6u (S:List z6)(c:Nat)(s:z6):q8m (S++[s]) c=match decide (0<s.length) with|true=>(c:Int)|false=>q8m S c:=by
 unfold q8m
 rw[List.any_append]
 cases hs:decide (0<s.length) <;> simp[hs]
theorem u0j (S:List z6)(R:List (List PV))(c:Nat)(c1:1≤c)(c2:c≤4096)(hl:S.length≤64)(hS:∀ s∈S,s.length=0∨s.length=c) :
 AFm Tryz.prog 1 x5j [.ref 0 0] [q9k (z2 S) R 0] (v8 (bl true) [q9k (z2 S) R (q8m S c)]):=by
 refine AFm.mono (R:=fun r H'=>∃ z,z=true∧r=bl z∧H'=[q9k (z2 S) R (q8m S c)]) ?_ (by rintro r H' ⟨z,rfl,rfl,rfl⟩;exact⟨rfl,rfl⟩)
 have hcl:=u5 S
 refine Q5 1 hT x5k rfl rfl x5m rfl rfl ?_
 refine q8 hT ?_
 refine z7 ⟨⟨42,[(0,.ref 0 0)]⟩,[q9k (z2 S) R (q8m S c)]⟩ True (q8 hT ?_) (fun _=>?_)
 ·refine z3 ?_
  refine y7 (fun n s=>∃ (k:Nat) (j long:Int),n+k=S.length∧j=k∧long=q8m (S.take k) c∧s=⟨⟨42,[(0,.ref 0 0),(8,.p (.sl 1 (z2 S))),(9,i64 (z2 S).length),(10,i64 j)]⟩,[q9k (z2 S) R long]⟩) S.length ⟨⟨42,_⟩,_⟩ (q7 [0] [0,8,9,10] rfl) ⟨0,0,0,rfl,rfl,rfl,rfl⟩ ?_
  rintro n s ⟨k,j,long,hnk,hj,hlong,rfl⟩
  refine q8 hT ?_
  refine z8 (z4 (y4 (fun h=>?_) (fun h=>?_)))
  ·have h:=k0q (show decide (j<(((z2 S).length:Nat):Int))=true from h)
   have hk:k<S.length:=by omega
   refine z5 ?_
   have hx:=k0x hk
   have hsl:=hS _ (k1x hk)
   generalize S[k]=x at hx hsl
   have hxp:(z2 S)[j.toNat]?=some [bP x]:=by rw[hj,k0v];exact Q0 hx
   have hbx:=w6 x
   have hstep:q8m (S.take (k+1)) c=match decide (0<x.length) with|true=>(c:Int)|false=>q8m (S.take k) c:=by
    rw[k2t,hx];exact w6u _ _ _
   have hlc:long=0∨long=c:=by
    rw[hlong];unfold q8m;split
    ·exact .inr rfl
    ·exact .inl rfl
   rw[← hlong]at hstep
   have w:=w2d S R long k x hx
   rw[← hj]at w
   obtain⟨e,he⟩:∃ e,e=decide (0<x.length):=⟨_,rfl⟩
   rw[← he]at w hstep
   refine y6 (fun st=>∃ long',long'=q8m (S.take (k+1)) c∧st=⟨⟨42,[(0,.ref 0 0),(8,.p (.sl 1 (z2 S))),(9,i64 (z2 S).length),(10,i64 j)]⟩,[q9k (z2 S) R long']⟩) (z3 (q8 hT ?_)) ?_
   ·refine⟨by omega,w9 hxp ?_⟩
    refine z7 ⟨⟨42,[(0,.ref 0 0),(4,bA x),(8,.p (.sl 1 (z2 S))),(9,i64 (z2 S).length),(10,i64 j)]⟩,[q9k (z2 S) R long]⟩ (e=true) (q8 hT ?_) (fun h1=>?_)
    ·refine x7 (Q7 [0] w rfl rfl rfl) ?_
     refine z4 (y4 (fun h=>?_) (fun h=>?_))
     ·have h:(!e)=true:=h
      rw[(Bool.not_eq_true' _).mp h]at hstep
      refine x6 ?_
      exact⟨_,q7 [0] [0,8,9,10] rfl,long,hstep.symm,rfl⟩
     ·have h:(!e)=false:=h
      exact z5 ⟨q7 [0] [0,4,8,9,10] rfl,(Bool.not_eq_false' _).mp h⟩
    rw[h1]at he hstep
    have hxc:x.length=c:=by
     have:=k0q he.symm
     omega
    refine y6 (fun st=>∃ v:Int,v=c∧st=⟨⟨42,[(0,.ref 0 0),(4,bA x),(8,.p (.sl 1 (z2 S))),(9,i64 (z2 S).length),(10,i64 j)]⟩,[q9k (z2 S) R v]⟩) (q8 hT ?_) ?_
    ·refine z4 (y4 (fun h=>?_) (fun h=>?_))
     ·refine q9 hT ?_
      exact⟨_,q7 [0] [0,4,8,9,10] rfl,_,(show (((bx x).length:Nat):Int)=(c:Int) by omega),rfl⟩
     ·have h:(long==0)=false:=h
      have h:=beq_eq_false_iff_ne.mp h
      exact z5 ⟨_,q7 [0] [0,4,8,9,10] rfl,long,by omega,rfl⟩
    rintro _ ⟨v,rfl,rfl⟩
    refine q8 hT ?_
    refine z4 (y4 (fun h=>?_) (fun h=>?_))
    ·have h:((((bx x).length:Nat):Int) != (c:Int))=true:=h
     rw[bne_iff_ne]at h
     omega
    ·exact z5 ⟨_,q7 [0] [0,8,9,10] rfl,_,hstep.symm,rfl⟩
   ·rintro _ ⟨long',hl',rfl⟩
    refine q9 hT ?_
    exact⟨n - 1,by omega,_,q7 [0] [0,8,9,10] rfl,k+1,IntKind.i64.wrap (j+1),long',by omega,by rw[y8 _ (by omega) (by omega)];omega,hl',rfl⟩
  ·have h:=k0z (show decide (j<(((z2 S).length:Nat):Int))=false from h)
   rw[k2z (by omega)]at hlong
   rw[← hlong]
   refine x6 ?_
   exact⟨q7 [0] [0] rfl,trivial⟩
 refine q8 hT ?_
 refine y9 ?_
 refine z9 [0] ⟨_,?_,rfl,rfl⟩ rfl
 unfold q8m
 split
 ·exact k1u (by omega)
 ·rfl
def Q6 (S:List z6)(most:Nat):Nat→List Nat
 |0=>[]
 |i+1=>match decide ((Q6 S most i).length<most)&&decide (0<(S.getD i []).length) with
  |true=>Q6 S most i++[i]
  |false=>Q6 S most i
theorem q1u (S:List z6)(most:Nat):∀ i,(Q6 S most i).length≤i∧(Q6 S most i).length≤most
 |0=>⟨k1w _,Nat.zero_le _⟩
 |i+1=>by
  obtain⟨a,b⟩:=q1u S most i
  unfold Q6
  split
  ·rename_i h
   rw[k1v,decide_eq_true_eq]at h
   rw[k1z,List.length_singleton]
   omega
  ·omega
theorem q2n (S:List z6)(most:Nat):∀ i j,j∈Q6 S most i→j<i∧0<(S.getD j []).length
 |0,j,h=>by simp[Q6]at h
 |i+1,j,h=>by
  unfold Q6 at h
  split at h
  ·rename_i hc
   rw[k1v,decide_eq_true_eq,decide_eq_true_eq]at hc
   rw[List.mem_append,List.mem_singleton]at h
   rcases h with h|rfl
   ·obtain⟨a,b⟩:=q2n S most i j h
    exact⟨by omega,b⟩
   ·exact⟨Nat.lt_succ_self _,hc.2⟩
  ·obtain⟨a,b⟩:=q2n S most i j h
   exact⟨by omega,b⟩
def ixN (l:List Nat):List (List PV):=l.map fun n:Nat=>([.raw (.int .i64 (n:Int))]:List PV)
theorem w9e (l:List Nat):(ixN l).length=l.length:=by simp[ixN]
theorem v8a (l:List Nat)(n:Nat):ixN (l++[n])=ixN l++[[.raw (.int .i64 (n:Int))]]:=by simp[ixN]
theorem u0k {l:List Nat}{i n:Nat}(h:l[i]?=some n):(ixN l)[i]?=some [.raw (.int .i64 (n:Int))]:=by rw[ixN,k1q,h];rfl
abbrev w2e:AV:=.mth (.func z4u) [.ref 0 0]
theorem v2q (S:List z6)(R:List (List PV))(long:Int)(most:Nat)(hl:S.length≤64)(hm:most≤64) :
 AFm Tryz.prog 1 x9q [i64 S.length,i64 most,w2e] [q9k (z2 S) R long] (v8 (.p (.sl 1 (ixN (Q6 S most S.length)))) [q9k (z2 S) R long]):=by
 have hcl:=u5 S
 obtain⟨N,hN⟩:∃ N,N=S.length:=⟨_,rfl⟩
 rw[← hN]
 refine Q5 1 hT x9r rfl rfl x9s rfl rfl ?_
 refine q8 hT ?_
 refine z7 ⟨⟨28,[(0,i64 N),(1,i64 most),(2,w2e),(7,.msl 1 1 0 0)]⟩,[q9k (z2 S) R long,.row q4u 1 []]⟩ True (q9 hT ?_) (fun _=>?_)
 ·exact⟨Wk.trans (Q2 q4u 1) (Wk.trans (V6 7 1 1 0 rfl) (q7 [0,1] [0,1,2,7] rfl)),trivial⟩
 refine y6 (fun st=>∃ L,L=Q6 S most N∧st=⟨⟨28,[(7,.msl 1 1 0 (ixN L).length)]⟩,[q9k (z2 S) R long,.row q4u 1 (ixN L)]⟩) (q8 hT ?_) ?_
 ·refine z3 ?_
  refine y7 (fun n s=>∃ (k:Nat) (j:Int) (L:List Nat),n+k=N∧j=k∧L=Q6 S most k∧s=⟨⟨28,[(0,i64 N),(1,i64 most),(2,w2e),(7,.msl 1 1 0 (ixN L).length),(9,i64 N),(10,i64 j)]⟩,[q9k (z2 S) R long,.row q4u 1 (ixN L)]⟩) N ⟨⟨28,_⟩,_⟩ (q7 [0,1] [0,1,2,7,9,10] rfl) ⟨0,0,[],by omega,rfl,rfl,rfl⟩ ?_
  rintro n s ⟨k,j,L,hnk,hj,hL,rfl⟩
  have hll:=q1u S most k
  rw[← hL]at hll
  have hil:=w9e L
  refine q8 hT ?_
  refine z8 (z4 (y4 (fun h=>?_) (fun h=>?_)))
  ·have h:=k0q (show decide (j<(N:Int))=true from h)
   have hk:k<S.length:=by omega
   refine z5 ?_
   have hx:=k0x hk
   have hstep:Q6 S most (k+1)=match decide (L.length<most)&&decide (0<S[k].length) with|true=>L++[k]|false=>L:=by
    rw[Q6,← hL,k0w,hx];rfl
   generalize S[k]=x at hx hstep
   have w:=w2d S R long k x hx
   rw[← hj]at w
   obtain⟨e,he⟩:∃ e,e=decide (0<x.length):=⟨_,rfl⟩
   rw[← he]at w hstep
   have hd:decide (L.length<most)=decide ((((ixN L).length:Nat):Int)<(most:Int)):=by
    by_cases c:L.length<most
    ·rw[k1u c,k1u (by omega)]
    ·rw[k1t c,k1t (by omega)]
   rw[hd]at hstep
   refine y6 (fun st=>∃ L2,L2=Q6 S most (k+1)∧st=⟨⟨28,[(0,i64 N),(1,i64 most),(2,w2e),(7,.msl 1 1 0 (ixN L2).length),(9,i64 N),(10,i64 j)]⟩,[q9k (z2 S) R long,.row q4u 1 (ixN L2)]⟩) (z3 (q8 hT ?_)) ?_
   ·refine y6 (fun st=>∃ b,b=(decide ((((ixN L).length:Nat):Int)<(most:Int))&&e)∧st=⟨⟨28,[(0,i64 N),(1,i64 most),(2,w2e),(7,.msl 1 1 0 (ixN L).length),(8,i64 j),(9,i64 N),(10,i64 j),(21,bl b)]⟩,[q9k (z2 S) R long,.row q4u 1 (ixN L)]⟩) (q9 hT ?_) ?_
    ·refine y4 (fun h=>?_) (fun h=>?_)
     ·refine x7 (Q7 [0] w rfl rfl rfl) ?_
      exact⟨_,q7 [0,1] [0,1,2,7,8,9,10,21] rfl,e,by rw[show decide ((((ixN L).length:Nat):Int)<(most:Int))=true from h,Bool.true_and],rfl⟩
     ·exact⟨_,q7 [0,1] [0,1,2,7,8,9,10,21] rfl,false,by rw[show decide ((((ixN L).length:Nat):Int)<(most:Int))=false from h,Bool.false_and],rfl⟩
    rintro _ ⟨b,hb,rfl⟩
    rw[← hb]at hstep
    refine z4 (y4 (fun h=>?_) (fun h=>?_))
    ·have h:b=true:=h
     rw[h]at hstep
     refine X8 (fun k=>Nat.beq 2 k) hT ?_
     refine⟨⟨rfl,rfl⟩,?_⟩
     refine⟨rfl,⟨?_,?_⟩,?_⟩
     ·show ((ixN L).length+1)*8≤_
      omega
     ·show (ixN L).length+1≤_
      omega
     refine⟨_,q7 [0,2] [0,1,2,7,9,10] rfl,L++[k],hstep.symm,?_⟩
     rw[v8a,← hj];rfl
    ·have h:b=false:=h
     rw[h]at hstep
     exact z5 ⟨_,q7 [0,1] [0,1,2,7,9,10] rfl,L,hstep.symm,rfl⟩
   ·rintro _ ⟨L2,hL2,rfl⟩
    refine q9 hT ?_
    exact⟨n - 1,by omega,_,q7 [0,1] [0,1,2,7,9,10] rfl,k+1,IntKind.i64.wrap (j+1),L2,by omega,by rw[y8 _ (by omega) (by omega)];omega,hL2,rfl⟩
  ·have h:=k0z (show decide (j<(N:Int))=false from h)
   rw[show k=N by omega]at hL
   refine x6 ?_
   exact⟨_,q7 [0,1] [7] rfl,L,hL,rfl⟩
 rintro _ ⟨L,rfl,rfl⟩
 refine q8 hT ?_
 refine u6 (Z6 6 1 _ rfl rfl rfl rfl) ?_
 refine y9 ?_
 exact z9 [0] ⟨rfl,rfl⟩ rfl
def byB (S:List z6)(k m:Nat):List z6:=(Q6 S k (k+m)).map fun i=>(Y5 k m).getD i []
def ofB (S:List z6)(k m:Nat):List z6:=(Q6 S k (k+m)).map fun i=>S.getD i []
def W9 (S:List z6)(k m c:Nat):List z6:=(z5t (byB S k m)).map fun a=>x9 a (ofB S k m) c k
def J9 (S:List z6)(k m c:Nat):List z6 × Int:=match decide ((Q6 S k (k+m)).length<k) with
 |true=>([],9)
 |false=>(W9 S k m c++q1g (W9 S k m c) m c,0)
theorem u0m {r:Nat}{L:List z6}(hok:y0q r L=true)(hL:L.length=r)(hr:∀ s∈L,s.length=r):∀ s∈z5t L,s.length=r:=fun s hs=>by
 rw[q7s hL,List.mem_map]at hs
 obtain⟨i,hi,rfl⟩:=hs
 exact(y0r hok hL hr r (k1w _)).2 i (List.mem_range.mp hi)
theorem z2i (L:List z6):(z5t L).length=L.length:=by unfold z5t;rw[k1y,k3q]
theorem v2r (S:List z6)(k m c:Nat)(k1:1≤k)(k4:k≤4)(m1:1≤m)(m3:m≤3)(c1:1≤c)(c2:c≤4096)(hl:S.length=k+m)(hS:∀ s∈S,s.length=0∨s.length=c)
 (hok:(Q6 S k (k+m)).length=k→y0q k (byB S k m)=true) :
 AF Tryz.prog x8t [.p (.sl 1 (z2 S)),i64 k] [] (v8 (.tup [.p (.sl 1 (z2 (J9 S k m c).1)),i64 (J9 S k m c).2]) []):=by
 refine AF.mono (R:=fun r H'=>∃ z,z=J9 S k m c∧r=.tup [.p (.sl 1 (z2 z.1)),i64 z.2]∧H'=[]) ?_ (by rintro r H' ⟨z,rfl,rfl,rfl⟩;exact⟨rfl,rfl⟩)
 have eD:J9 S k m c=match decide ((Q6 S k (k+m)).length<k) with
  |true=>([],9)
  |false=>(W9 S k m c++q1g (W9 S k m c) m c,0):=rfl
 have hcl:=u5 S
 have hm:IntKind.i64.wrap ((((z2 S).length:Nat):Int) - (k:Int))=(m:Int):=by rw[y8 _ (by omega) (by omega)];omega
 have wr:=w9d k m k1 k4 m1 m3
 have hrl:=q3s k m
 have wmay:=u0j S (z2 (Y5 k m)) c c1 c2 (by omega) hS
 have wpk:=v2q S (z2 (Y5 k m)) (q8m S c) k (by omega) (by omega)
 rw[hl]at wpk
 have hgl:=q1u S k (k+m)
 have hgm:=q2n S k (k+m)
 have hbyE:byB S k m=(Q6 S k (k+m)).map fun i=>(Y5 k m).getD i []:=rfl
 have hofE:ofB S k m=(Q6 S k (k+m)).map fun i=>S.getD i []:=rfl
 have hdE:W9 S k m c=(z5t (byB S k m)).map fun a=>x9 a (ofB S k m) c k:=rfl
 generalize J9 S k m c=Z at eD
 generalize q8m S c=long at wmay wpk
 generalize W9 S k m c=D at eD hdE
 generalize hby:byB S k m=BY at hbyE hdE hok
 generalize hof:ofB S k m=OF at hofE hdE
 generalize Q6 S k (k+m)=G at eD wpk hgl hgm hbyE hofE hok
 have hGc:(((k+m:Nat):Int))=(((z2 S).length:Nat):Int):=by omega
 rw[hGc]at wpk
 have hgi:=w9e G
 have hRc:=u5 (Y5 k m)
 have hRg:=fun(i:Nat) (hi:i<k+m)=>Q0 (k0x (l:=Y5 k m) (i:=i) (by rw[hrl];exact hi))
 have hRd:=fun(i:Nat) (hi:i<k+m)=>(show (Y5 k m).getD i []=(Y5 k m)[i]'(by rw[hrl];exact hi) by rw[k0w,k0x (by rw[hrl];exact hi)];rfl)
 have hrow:=@x1x k m
 rw[← hm]at wr
 generalize hRR:z2 (Y5 k m)=R at wr wmay wpk hRg hRc
 refine v6 hT x8u rfl rfl x8v rfl ?_
 refine q8 hT ?_
 refine z7 ⟨⟨97,[(0,.p (.sl 1 (z2 S))),(1,i64 k),(6,.p (.sl 1 R)),(7,i64 0)]⟩,[]⟩ True (q9 hT ?_) (fun _=>?_)
 ·refine x7 (w7 wr _ rfl rfl) ?_
  exact⟨q7 [] [0,1,6,7] rfl,trivial⟩
 refine z7 ⟨⟨97,[(0,.p (.sl 1 (z2 S))),(1,i64 k),(6,.p (.sl 1 R)),(7,i64 0),(8,.ref 0 0)]⟩,[q9k (z2 S) R 0]⟩ True (q9 hT ?_) (fun _=>?_)
 ·exact⟨q7 [0] [0,1,6,7,8] rfl,trivial⟩
 refine z7 ⟨⟨97,[(0,.p (.sl 1 (z2 S))),(1,i64 k),(6,.p (.sl 1 R)),(8,.ref 0 0)]⟩,[q9k (z2 S) R long]⟩ True (q8 hT ?_) (fun _=>?_)
 ·refine x7 (Q7 [0] wmay rfl rfl rfl) ?_
  refine z4 ?_
  exact z5 ⟨q7 [0] [0,1,6,8] rfl,trivial⟩
 refine z7 ⟨⟨97,[(0,.p (.sl 1 (z2 S))),(1,i64 k),(6,.p (.sl 1 R)),(9,.p (.sl 1 (ixN G)))]⟩,[]⟩ True (q9 hT ?_) (fun _=>?_)
 ·refine x7 (Q7 [0] wpk rfl rfl rfl) ?_
  exact⟨q7 [] [0,1,6,9] rfl,trivial⟩
 refine z7 ⟨⟨97,[(0,.p (.sl 1 (z2 S))),(1,i64 k),(6,.p (.sl 1 R)),(9,.p (.sl 1 (ixN G)))]⟩,[]⟩ (G.length=k) (q8 hT ?_) ?_
 ·refine z4 (y4 (fun h=>?_) (fun h=>?_))
  ·have h:=k0q (show decide ((((ixN G).length:Nat):Int)<(k:Int))=true from h)
   rw[k1u (show G.length<k by omega)]at eD
   refine q8 hT ?_
   refine u6 (q1a 4 1 rfl) ?_
   refine y9 ?_
   exact z9 [] ⟨([],9),eD.symm,rfl,rfl⟩ rfl
  ·have h:=k0z (show decide ((((ixN G).length:Nat):Int)<(k:Int))=false from h)
   exact z5 ⟨q7 [] [0,1,6,9] rfl,by omega⟩
 intro hGk
 rw[k1t (show ¬ G.length<k by omega)]at eD
 have hok:=hok hGk
 have hBl:BY.length=k:=by rw[hbyE,k1y,hGk]
 have hOl:OF.length=k:=by rw[hofE,k1y,hGk]
 have hBr:∀ s∈BY,s.length=k:=fun s hs=>by
  rw[hbyE,List.mem_map]at hs
  obtain⟨i,hi,rfl⟩:=hs
  have hi2:=(hgm i hi).1
  rw[hRd i hi2]
  exact hrow _ (k1x _)
 have hOr:∀ s∈OF,s.length=c:=fun s hs=>by
  rw[hofE,List.mem_map]at hs
  obtain⟨i,hi,rfl⟩:=hs
  obtain⟨hi2,hi3⟩:=hgm i hi
  have hm2:S.getD i []∈S:=by
   rw[k0w,k0x (show i<S.length by omega)]
   exact k1x _
  have:=hS _ hm2
  omega
 have hil:(z5t BY).length=k:=(z2i BY).trans hBl
 have wi:=v7z BY (by omega) (by omega) (by rw[hBl];exact hBr) (by rw[hBl];exact hok)
 have wx:=v2k (z5t BY) OF k c (by omega) (by omega) k1 (by omega) c1 c2 (u0m hok hBl hBr) hOl hOr
 rw[← hdE,hil]at wx
 have hDl:D.length=k:=by rw[hdE,k1y,hil]
 have hDr:∀ s∈D,s.length=c:=fun s hs=>by
  rw[hdE,List.mem_map]at hs
  obtain⟨a,_,rfl⟩:=hs
  exact Q8 a hOr (by omega)
 have we:=y7g D m c (by omega) (by omega) m1 m3 c1 c2 hDr
 rw[hDl,← hm]at we
 have hEl:(q1g D m c).length=m:=by unfold q1g;rw[k1y,q3a]
 generalize q1g D m c=E at eD we hEl
 generalize z5t BY=V at wi wx
 clear hok hil hdE
 refine z7 ⟨⟨97,[(0,.p (.sl 1 (z2 S))),(1,i64 k),(6,.p (.sl 1 R)),(9,.p (.sl 1 (ixN G))),(10,.msl 0 1 0 0),(11,.msl 1 1 0 0)]⟩,[.row z0 1 [],.row z0 1 []]⟩ True (q9 hT ?_) (fun _=>?_)
 ·exact⟨Wk.trans (Q2 z0 1) (Wk.trans (Q2 z0 1) (Wk.trans (V6 10 0 1 0 rfl) (Wk.trans (V6 11 1 1 0 rfl) (q7 [0,1] [0,1,6,9,10,11] rfl)))),trivial⟩
 refine z7 ⟨⟨97,[(0,.p (.sl 1 (z2 S))),(1,i64 k),(10,.msl 0 1 0 (z2 BY).length),(11,.msl 1 1 0 (z2 OF).length)]⟩,[.row z0 1 (z2 BY),.row z0 1 (z2 OF)]⟩ True (q8 hT ?_) (fun _=>?_)
 ·refine z3 ?_
  refine y7 (fun n s=>∃ (i:Nat) (j:Int) (X Y:List z6),n+i=k∧j=i∧X=BY.take i∧Y=OF.take i∧s=⟨⟨97,[(0,.p (.sl 1 (z2 S))),(1,i64 k),(6,.p (.sl 1 R)),(10,.msl 0 1 0 (z2 X).length),(11,.msl 1 1 0 (z2 Y).length),(48,.p (.sl 1 (ixN G))),(49,i64 (ixN G).length),(50,i64 j)]⟩,[.row z0 1 (z2 X),.row z0 1 (z2 Y)]⟩) k ⟨⟨97,_⟩,_⟩ (q7 [0,1] [0,1,6,10,11,48,49,50] rfl) ⟨0,0,[],[],by omega,rfl,rfl,rfl,rfl⟩ ?_
  rintro n s ⟨i,j,X,Y,hni,hj,hX,hY,rfl⟩
  refine q8 hT ?_
  refine z8 (z4 (y4 (fun h=>?_) (fun h=>?_)))
  ·have h:=k0q (show decide (j<(((ixN G).length:Nat):Int))=true from h)
   have hi:i<G.length:=by omega
   refine z5 ?_
   have hg:=k0x hi
   have hgi2:=(hgm _ (k1x hi)).1
   have hby2:BY[i]?=some ((Y5 k m).getD G[i] []):=by rw[hbyE,k1q,hg];rfl
   have hof2:OF[i]?=some (S.getD G[i] []):=by rw[hofE,k1q,hg];rfl
   generalize G[i]=a at hg hgi2 hby2 hof2
   have hSa:=k0x (show a<S.length by omega)
   rw[k0w,hSa]at hof2
   have hof2:OF[i]?=some S[a]:=hof2
   have hSl:=hOr _ (k2x hof2)
   generalize S[a]=sa at hSa hof2 hSl
   have hRa:=hRg a hgi2
   rw[← hRd a hgi2]at hRa
   generalize (Y5 k m).getD a []=ra at hby2 hRa
   have hX2:BY.take (i+1)=X++[ra]:=by rw[k2t,hby2,hX];rfl
   have hY2:OF.take (i+1)=Y++[sa]:=by rw[k2t,hof2,hY];rfl
   have hXl:(z2 X).length≤64:=by rw[u5,hX,k2u];omega
   have hYl:(z2 Y).length≤64:=by rw[u5,hY,k2u];omega
   have hgp:(ixN G)[j.toNat]?=some [.raw (.int .i64 (a:Int))]:=by rw[hj,k0v];exact u0k hg
   have hRp:R[((a:Nat):Int).toNat]?=some [bP ra]:=by rw[k0v];exact hRa
   have hSp:(z2 S)[((a:Nat):Int).toNat]?=some [bP sa]:=by rw[k0v];exact Q0 hSa
   have wc:=z7s sa (by omega)
   refine y6 (fun st=>∃ X' Y':List z6,X'=X++[ra]∧Y'=Y++[sa]∧st=⟨⟨97,[(0,.p (.sl 1 (z2 S))),(1,i64 k),(6,.p (.sl 1 R)),(10,.msl 0 1 0 (z2 X').length),(11,.msl 1 1 0 (z2 Y').length),(48,.p (.sl 1 (ixN G))),(49,i64 (ixN G).length),(50,i64 j)]⟩,[.row z0 1 (z2 X'),.row z0 1 (z2 Y')]⟩) (z3 (q8 hT ?_)) ?_
   ·refine⟨by omega,w9 hgp ?_⟩
    refine v7 [6,14] [5,13] hT y5 (by rfl) ?_
    refine⟨by omega,w9 hRp ?_⟩
    refine⟨⟨rfl,rfl⟩,?_⟩
    refine⟨rfl,⟨?_,?_⟩,?_⟩
    ·show ((z2 X).length+1)*24≤_
     omega
    ·show (z2 X).length+1≤_
     omega
    refine⟨by omega,w9 hSp ?_⟩
    refine⟨_,w7 wc _ rfl rfl,?_⟩
    refine⟨⟨rfl,rfl⟩,?_⟩
    refine⟨rfl,⟨?_,?_⟩,?_⟩
    ·show ((z2 Y).length+1)*24≤_
     omega
    ·show (z2 Y).length+1≤_
     omega
    repeat first|refine⟨rfl,?_⟩|refine⟨⟨by omega,w9 hRp rfl⟩,?_⟩|refine⟨⟨by omega,w9 hSp rfl⟩,?_⟩|refine⟨⟨_,w7 wc _ rfl rfl,rfl⟩,?_⟩
    exact⟨_,q7 [2,3] [0,1,6,10,11,48,49,50] rfl,_,_,rfl,rfl,by rw[Y1,Y1];rfl⟩
   ·rintro _ ⟨X',Y',rfl,rfl,rfl⟩
    refine q9 hT ?_
    exact⟨n - 1,by omega,_,q7 [0,1] [0,1,6,10,11,48,49,50] rfl,i+1,IntKind.i64.wrap (j+1),_,_,by omega,by rw[y8 _ (by omega) (by omega)];omega,hX2.symm,hY2.symm,rfl⟩
  ·have h:=k0z (show decide (j<(((ixN G).length:Nat):Int))=false from h)
   rw[k2z (by omega)]at hX hY
   rw[hX,hY]
   refine x6 ?_
   exact⟨q7 [0,1] [0,1,10,11] rfl,trivial⟩
 refine u6 (Z6 10 0 _ rfl rfl rfl rfl) ?_
 refine u6 (Z6 11 1 _ rfl rfl rfl rfl) ?_
 refine z7 ⟨⟨97,[(0,.p (.sl 1 (z2 S))),(1,i64 k),(7,i64 0),(11,.p (.sl 1 (z2 OF))),(14,.p (.sl 1 (z2 V)))]⟩,[]⟩ True (q9 hT ?_) (fun _=>?_)
 ·refine x7 (w7 wi _ rfl rfl) ?_
  exact⟨q7 [] [0,1,7,11,14] rfl,trivial⟩
 refine z8 (q8 hT ?_)
 refine z4 ?_
 refine z5 ?_
 refine z7 ⟨⟨97,[(0,.p (.sl 1 (z2 S))),(1,i64 k),(15,.msl 0 1 0 k)]⟩,[.row z0 1 (z2 D)]⟩ True (q9 hT ?_) (fun _=>?_)
 ·refine x7 wx ?_
  exact⟨q7 [0] [0,1,15] rfl,trivial⟩
 refine z7 ⟨⟨97,[(7,i64 0),(15,.msl 0 1 0 k),(17,.p (.sl 1 (z2 E)))]⟩,[.row z0 1 (z2 D)]⟩ True (q9 hT ?_) (fun _=>?_)
 ·refine x7 (Q7 [0] we rfl rfl rfl) ?_
  exact⟨q7 [0] [7,15,17] rfl,trivial⟩
 have hDc:=u5 D
 have hEc:=u5 E
 refine q8 hT ?_
 refine⟨by omega,⟨by show ((z2 D).length+(z2 E).length)*24≤_;omega,by omega⟩,?_⟩
 refine u6 (Z6 4 1 _ rfl rfl rfl rfl) ?_
 refine y9 ?_
 exact z9 [] ⟨(D++E,0),eD.symm,(by show AV.tup [.p (.sl 1 (z2 D++z2 E)),i64 0]=_;rw[← Y1]),rfl⟩ rfl
def U2 (a:z6)(x:Nat→UInt8):Nat→UInt8
 |0=>0
 |n+1=>U2 a x n ^^^ Gf.mul (a.getD n 0) (x n)
theorem q9m {to row:z6}(q:UInt8)(h:to.length=row.length)(n:Nat):(J4 to row q).getD n 0=to.getD n 0 ^^^ Gf.mul q (row.getD n 0):=by
 unfold J4
 rw[k0w,List.getElem?_zipWith,k0w,k0w]
 by_cases hn:n<to.length
 ·rw[k0x hn,k0x (h ▸ hn)];rfl
 ·rw[List.getElem?_eq_none (by omega),List.getElem?_eq_none (by omega)]
  show (0:UInt8)=0 ^^^ Gf.mul q 0
  rw[Gf.mul_zero];rfl
theorem y7i (z:UInt8)(t:z6)(n:Nat):(q0w z t).getD n 0=Gf.mul z (t.getD n 0):=by
 unfold q0w
 rw[k0w,k1q,k0w]
 cases t[n]? with
 |none=>show (0:UInt8)=Gf.mul z 0;rw[Gf.mul_zero]
 |some v=>exact Gf.mul_comm _ _
theorem u3h (a b c d:UInt8):a ^^^ b ^^^ (c ^^^ d)=a ^^^ c ^^^ (b ^^^ d):=by
 rw[UInt8.xor_assoc,UInt8.xor_assoc,← UInt8.xor_assoc b,UInt8.xor_comm b c,UInt8.xor_assoc c]
theorem q5v {a b:UInt8}(h:a ^^^ b=0):a=b:=by
 have:a ^^^ b ^^^ b=b:=by rw[h,UInt8.zero_xor]
 rwa [UInt8.xor_assoc,UInt8.xor_self,UInt8.xor_zero]at this
theorem z3x {to row:z6}(q:UInt8)(h:to.length=row.length)(x:Nat→UInt8):∀ n,U2 (J4 to row q) x n=U2 to x n ^^^ Gf.mul q (U2 row x n)
 |0=>by show (0:UInt8)=0 ^^^ Gf.mul q 0;rw[Gf.mul_zero];rfl
 |n+1=>by
  show U2 _ x n ^^^ Gf.mul ((J4 to row q).getD n 0) (x n)=_
  rw[z3x q h x n,q9m q h,Gf.xor_mul,u3h,Gf.mul_assoc,← Gf.mul_xor];rfl
theorem z0q (z:UInt8)(t:z6)(x:Nat→UInt8):∀ n,U2 (q0w z t) x n=Gf.mul z (U2 t x n)
 |0=>by show (0:UInt8)=Gf.mul z 0;rw[Gf.mul_zero]
 |n+1=>by
  show U2 _ x n ^^^ Gf.mul ((q0w z t).getD n 0) (x n)=_
  rw[z0q z t x n,y7i,Gf.mul_assoc,← Gf.mul_xor];rfl
theorem x1z {a:z6}{x y:Nat→UInt8}:∀ {n},(∀ j,j<n→x j=y j)→U2 a x n=U2 a y n
 |0,_=>rfl
 |n+1,h=>by
  show U2 a x n ^^^ _=U2 a y n ^^^ _
  rw[x1z (n:=n) fun j hj=>h j (by omega),h n (by omega)]
theorem z2j {a:z6}{i:Nat}(x:Nat→UInt8):∀ {n},(∀ j,j<n→a.getD j 0=if i=j then 1 else 0)→U2 a x n=if i<n then x i else 0
 |0,_=>by rw[if_neg (by omega)];rfl
 |n+1,h=>by
  show U2 a x n ^^^ Gf.mul (a.getD n 0) (x n)=_
  rw[z2j x (n:=n) fun j hj=>h j (by omega),h n (by omega)]
  by_cases e:i=n
  ·subst e
   rw[if_pos rfl,if_neg (by omega),if_pos (by omega),Gf.one_mul,UInt8.zero_xor]
  ·rw[if_neg e,Gf.zero_mul,UInt8.xor_zero]
   by_cases hi:i<n
   ·rw[if_pos hi,if_pos (by omega)]
   ·rw[if_neg hi,if_neg (by omega)]
theorem y7j {a:z6}{x:Nat→UInt8}{c:Nat}:∀ {n},c≤n→(∀ j,c≤j→j<n→x j=0)→U2 a x n=U2 a x c
 |0,h,_=>by rw[show c=0 by omega]
 |n+1,h,hz=>by
  by_cases e:c=n+1
  ·rw[e]
  ·show U2 a x n ^^^ Gf.mul (a.getD n 0) (x n)=_
   rw[y7j (n:=n) (by omega) fun j h1 h2=>hz j h1 (by omega),hz n (by omega) (by omega),Gf.mul_zero,UInt8.xor_zero]
theorem x2a {to row:z6}(h:to.length=row.length):J4 to row 0=to:=by
 refine List.ext_getElem? fun n=>?_
 unfold J4
 rw[List.getElem?_zipWith]
 by_cases hn:n<to.length
 ·rw[k0x hn,k0x (h ▸ hn)]
  show some (to[n] ^^^ Gf.mul 0 _)=_
  rw[Gf.zero_mul,UInt8.xor_zero]
 ·rw[List.getElem?_eq_none (by omega)]
theorem x2b (M:Z3)(c p:Nat):swp M c p c=M p:=by unfold swp;rw[Nat.beq_refl]
theorem z5u (M:Z3)(c p i:Nat):swp M c p i=M (if i=c then p else if i=p then c else i):=by
 unfold swp
 cases h:Nat.beq i c with
 |true=>rw[if_pos (Nat.eq_of_beq_eq_true h)]
 |false=>
  rw[if_neg (Nat.ne_of_beq_eq_false h)]
  cases h:Nat.beq i p with
  |true=>rw[if_pos (Nat.eq_of_beq_eq_true h)]
  |false=>rw[if_neg (Nat.ne_of_beq_eq_false h)]
theorem x6d {r c p:Nat}(hc:c<r)(hp:p<r){M N:Z3}{Q:z6→z6→Prop}(h:∀ i,i<r→Q (swp M c p i) (swp N c p i)):∀ i,i<r→Q (M i) (N i):=fun i hi=>by
 have:=h (if i=c then p else if i=p then c else i) (by split;exact hp;split;exact hc;exact hi)
 rw[z5u,z5u]at this
 have e:(if (if i=c then p else if i=p then c else i)=c then p else if (if i=c then p else if i=p then c else i)=p then c else (if i=c then p else if i=p then c else i))=i:=by
  by_cases a:i=c
  ·rw[if_pos a]
   by_cases b:p=c
   ·rw[if_pos b];omega
   ·rw[if_neg b,if_pos rfl];exact a.symm
  ·rw[if_neg a]
   by_cases b:i=p
   ·rw[if_pos b,if_pos rfl];exact b.symm
   ·rw[if_neg b,if_neg a,if_neg b]
 rwa [e]at this
theorem v8b {r c p:Nat}(hc:c<r)(hp:p<r){M N:Z3}{Q:z6→z6→Prop}(h:∀ i,i<r→Q (M i) (N i)):∀ i,i<r→Q (swp M c p i) (swp N c p i):=fun i hi=>by
 rw[z5u,z5u]
 exact h _ (by split;exact hp;split;exact hc;exact hi)
theorem q0h (M:Z3)(c:Nat)(v:z6)(i:Nat):U5 M c v i=if i=c then v else M i:=by
 unfold U5
 cases h:Nat.beq i c with
 |true=>rw[if_pos (Nat.eq_of_beq_eq_true h)]
 |false=>rw[if_neg (Nat.ne_of_beq_eq_false h)]
theorem w6v {r c k:Nat}(hk:k<r)(hc:c<r){G:Z3 × Z3}(h1:V2 r G.1)(h2:V2 r G.2)(i:Nat) :
 (q0x c k G).1 i=(if i=k∧i≠c then J4 (G.1 k) (G.1 c) ((G.1 k).getD c 0) else G.1 i)∧(q0x c k G).2 i=(if i=k∧i≠c then J4 (G.2 k) (G.2 c) ((G.1 k).getD c 0) else G.2 i):=by
 unfold q0x
 cases e1:Nat.beq k c with
 |true=>
  have:=Nat.eq_of_beq_eq_true e1
  rw[if_neg (by omega),if_neg (by omega)]
  exact⟨rfl,rfl⟩
 |false=>
  have hkc:=Nat.ne_of_beq_eq_false e1
  cases e2:((G.1 k).getD c 0 != 0) with
  |true=>
   show U5 _ _ _ i=_∧U5 _ _ _ i=_
   rw[q0h,q0h]
   by_cases h:i=k
   ·rw[if_pos h,if_pos h,if_pos ⟨h,by omega⟩,if_pos ⟨h,by omega⟩];exact⟨rfl,rfl⟩
   ·rw[if_neg h,if_neg h,if_neg (by omega),if_neg (by omega)];exact⟨rfl,rfl⟩
  |false=>
   have e2:(G.1 k).getD c 0=0:=by simpa using e2
   show G.1 i=_∧G.2 i=_
   rw[e2,x2a (by rw[h1 k hk,h1 c hc]),x2a (by rw[h2 k hk,h2 c hc])]
   by_cases h:i=k
   ·subst h
    rw[if_pos ⟨rfl,hkc⟩,if_pos ⟨rfl,hkc⟩];exact⟨rfl,rfl⟩
   ·rw[if_neg (by omega),if_neg (by omega)];exact⟨rfl,rfl⟩
theorem y3i {r c:Nat}(hc:c<r){G:Z3 × Z3}(h1:V2 r G.1)(h2:V2 r G.2):∀ n,n≤r→∀ i,
 (elS c G n).1 i=(if i<n∧i≠c then J4 (G.1 i) (G.1 c) ((G.1 i).getD c 0) else G.1 i)∧(elS c G n).2 i=(if i<n∧i≠c then J4 (G.2 i) (G.2 c) ((G.1 i).getD c 0) else G.2 i)
 |0,_,i=>by rw[if_neg (by omega),if_neg (by omega)];exact⟨rfl,rfl⟩
 |n+1,hn,i=>by
  obtain⟨l1,l2⟩:=z0p hc h1 h2 n (by omega)
  obtain⟨a,b⟩:=w6v (show n<r by omega) hc l1 l2 i
  obtain⟨n1,n2⟩:=y3i hc h1 h2 n (by omega) n
  obtain⟨c1,c2⟩:=y3i hc h1 h2 n (by omega) c
  obtain⟨i1,i2⟩:=y3i hc h1 h2 n (by omega) i
  rw[if_neg (by omega)]at n1 n2 c1 c2
  show (q0x c n (elS c G n)).1 i=_∧(q0x c n (elS c G n)).2 i=_
  rw[a,b,n1,n2,c1,c2]
  by_cases h:i=n∧i≠c
  ·rw[if_pos h,if_pos h,if_pos (by omega),if_pos (by omega),h.1];exact⟨rfl,rfl⟩
  ·rw[if_neg h,if_neg h,i1,i2]
   by_cases h':i<n∧i≠c
   ·rw[if_pos h',if_pos h',if_pos (by omega),if_pos (by omega)];exact⟨rfl,rfl⟩
   ·rw[if_neg h',if_neg h',if_neg (by omega),if_neg (by omega)];exact⟨rfl,rfl⟩
theorem w6w {r c p:Nat}(hc:c<r)(hp:p<r){G:Z3 × Z3}(h1:V2 r G.1)(h2:V2 r G.2)(hpv:q1f G.1 r c=p)(z:UInt8)(hz:z=Gf.inv ((G.1 p).getD c 0))(_hz1:Gf.mul ((G.1 p).getD c 0) z=1):∀ i,i<r →
 (q2e r c G).1 i=(if i=c then q0w z (swp G.1 c p c) else J4 (swp G.1 c p i) (q0w z (swp G.1 c p c)) ((swp G.1 c p i).getD c 0)) ∧
 (q2e r c G).2 i=(if i=c then q0w z (swp G.2 c p c) else J4 (swp G.2 c p i) (q0w z (swp G.2 c p c)) ((swp G.1 c p i).getD c 0)):=fun i hi=>by
 have s1:=q1v h1 hc hp
 have s2:=q1v h2 hc hp
 have e:q8v r c G=(swp G.1 c p,swp G.2 c p):=by unfold q8v;rw[hpv,k0v]
 have e2:z3v c (q8v r c G)=(U5 (swp G.1 c p) c (q0w z (swp G.1 c p c)),U5 (swp G.2 c p) c (q0w z (swp G.2 c p c))):=by
  rw[e,hz,← x2b G.1 c p];rfl
 have t1:=q0u s1 c (v:=q0w z (swp G.1 c p c)) (by rw[q0c];exact s1 c hc)
 have t2:=q0u s2 c (v:=q0w z (swp G.2 c p c)) (by rw[q0c];exact s2 c hc)
 unfold q2e
 rw[e2]
 have hr:=y3i hc (G:=(U5 (swp G.1 c p) c (q0w z (swp G.1 c p c)),U5 (swp G.2 c p) c (q0w z (swp G.2 c p c)))) t1 t2 r (k1w _) i
 simp only[q0h,if_pos]at hr
 rw[hr.1,hr.2]
 by_cases h:i=c
 ·simp only[h,ne_eq,not_true,and_false,if_false,if_true,and_self]
 ·simp only[h,hi,ne_eq,not_false_eq_true,and_self,if_false,if_true]
def q2t (r:Nat)(M:Z3)(x:Nat→UInt8):Prop:=∀ i,i<r→U2 (M i) x r=0
structure ElI (r:Nat) (L:List z6) (c:Nat) (G:Z3 × Z3):Prop where
 len1:V2 r G.1
 len2:V2 r G.2
 unit:∀ i,i<r→∀ j,j<c→(G.1 i).getD j 0=if i=j then 1 else 0
 ker:∀ x,q2t r G.1 x→q2t r (fun i=>L.getD i []) x
 val:∀ x y,(∀ i,i<r→U2 (L.getD i []) x r=y i)→∀ i,i<r→U2 (G.1 i) x r=U2 (G.2 i) y r
theorem w9f (M:Z3)(c:Nat):∀ n i,¬ 0≤q7r M c n i→∀ p,i≤p→p<i+n→(M p).getD c 0=0
 |0,i,_,p,h1,h2=>by omega
 |n+1,i,h,p,h1,h2=>by
  unfold q7r at h
  cases hm:(M i).getD c 0 != 0 with
  |true=>rw[hm]at h;exact absurd (show (0:Int)≤i by omega) h
  |false=>
   rw[hm]at h
   by_cases e:i=p
   ·subst e;simpa using hm
   ·exact w9f M c n (i+1) h p (by omega) (by omega)
theorem w2f {r c:Nat}(hc:c<r){L:List z6}{G:Z3 × Z3}(hI:ElI r L c G)(hk:∀ x,q2t r (fun i=>L.getD i []) x→∀ j,j<r→x j=0):0≤q1f G.1 r c:=by
 by_cases h:0≤q1f G.1 r c
 ·exact h
 ·have hno:=w9f G.1 c (r - c) c h
  exfalso
  have hx:=hk (fun j=>if j=c then 1 else if j<c then (G.1 j).getD c 0 else 0) (hI.ker _ fun i hi=>by
   rw[y7j (c:=c+1) (by omega) fun j h1 h2=>by show (if j=c then (1:UInt8) else _)=0;rw[if_neg (by omega),if_neg (by omega)]]
   show U2 _ _ c ^^^ Gf.mul ((G.1 i).getD c 0) (if c=c then 1 else _)=0
   rw[if_pos rfl,Gf.mul_one,z2j _ (hI.unit i hi)]
   by_cases e:i<c
   ·rw[if_pos e,if_neg (by omega),if_pos e,UInt8.xor_self]
   ·rw[if_neg e,hno i (by omega) (by omega)];rfl) c hc
  rw[if_pos rfl]at hx
  exact absurd hx (by decide)
theorem el0 {r:Nat}{L:List z6}(hL:L.length=r)(hr:∀ s∈L,s.length=r):ElI r L 0 (gs0 r L) where
 len1:=fun i hi=>by
  show (L.getD i []).length=r
  rw[k0w,k0x (by omega)]
  exact hr _ (k1x _)
 len2:=fun i _=>q9j _ _ _
 unit:=fun i _ j h=>by omega
 ker:=fun x h=>h
 val:=fun x y h i hi=>by
  rw[show U2 ((gs0 r L).1 i) x r=y i from h i hi,z2j (i:=i),if_pos hi]
  intro j hj
  show (v9 idA r i).getD j 0=_
  unfold v9 idA
  rw[k0w,k1q,k2s hj]
  show (match ((i:Int)==(j:Int)) with|true=>(1:UInt8)|false=>0)=_
  by_cases e:i=j
  ·rw[if_pos e,e];rw[show ((j:Int)==(j:Int))=true from beq_self_eq_true _]
  ·rw[if_neg e,show ((i:Int)==(j:Int))=false from beq_eq_false_iff_ne.mpr (by omega)]
theorem u0n {r c:Nat}(hc:c<r){L:List z6}{G:Z3 × Z3}(hI:ElI r L c G)(hp:0≤q1f G.1 r c):ElI r L (c+1) (q2e r c G):=by
 obtain⟨p,p1,p2,p3,p4⟩:=z3w hc hp
 obtain⟨z,hz⟩:∃ z,z=Gf.inv ((G.1 p).getD c 0):=⟨_,rfl⟩
 have hz1:Gf.mul ((G.1 p).getD c 0) z=1:=by rw[hz];exact Gf.mul_inv p4
 have hrow:=w6w hc p3 hI.len1 hI.len2 p1 z hz hz1
 have s1:=q1v hI.len1 hc p3
 have s2:=q1v hI.len2 hc p3
 have hz0:z≠0:=fun e=>by rw[e,Gf.mul_zero]at hz1;exact absurd hz1 (by decide)
 have hSc:=x2b G.1 c p
 have hu:∀ i,i<r→∀ j,j<c→(swp G.1 c p i).getD j 0=if i=j then 1 else 0:=fun i hi j hj=>by
  rw[z5u,hI.unit _ (by split;exact p3;split;exact hc;exact hi) j hj]
  by_cases e:i=c
  ·rw[if_pos e,if_neg (by omega),if_neg (by omega)]
  ·rw[if_neg e]
   by_cases e2:i=p
   ·rw[if_pos e2,if_neg (by omega),if_neg (by omega)]
   ·rw[if_neg e2]
 have hvs:∀ x y,(∀ i,i<r→U2 (L.getD i []) x r=y i)→∀ i,i<r→U2 (swp G.1 c p i) x r=U2 (swp G.2 c p i) y r:=fun x y h=>v8b (Q:=fun a b=>U2 a x r=U2 b y r) hc p3 (hI.val x y h)
 have hks:∀ x,q2t r (swp G.1 c p) x→q2t r (fun i=>L.getD i []) x:=fun x h=>hI.ker x (x6d (N:=G.1) (Q:=fun a _=>U2 a x r=0) hc p3 h)
 have hcc:(swp G.1 c p c).getD c 0=(G.1 p).getD c 0:=by rw[hSc]
 rw[← hcc]at hz1
 generalize swp G.1 c p=S at *
 generalize swp G.2 c p=T at *
 have lc:∀ i,i<r→(S i).length=(q0w z (S c)).length:=fun i hi=>by rw[q0c,s1 i hi,s1 c hc]
 have lc2:∀ i,i<r→(T i).length=(q0w z (T c)).length:=fun i hi=>by rw[q0c,s2 i hi,s2 c hc]
 refine⟨fun i hi=>?_,fun i hi=>?_,fun i hi j hj=>?_,fun x hx=>hks x ?_,fun x y h i hi=>?_⟩
 ·rw[(hrow i hi).1]
  split
  ·rw[q0c];exact s1 c hc
  ·rw[q1t _ (lc i hi)];exact s1 i hi
 ·rw[(hrow i hi).2]
  split
  ·rw[q0c];exact s2 c hc
  ·rw[q1t _ (lc2 i hi)];exact s2 i hi
 ·rw[(hrow i hi).1]
  by_cases e:i=c
  ·rw[if_pos e,y7i]
   by_cases ej:j=c
   ·rw[ej,if_pos e,Gf.mul_comm];exact hz1
   ·rw[hu c hc j (by omega),if_neg (by omega),if_neg (by omega),Gf.mul_zero]
  ·rw[if_neg e,q9m _ (lc i hi),y7i]
   by_cases ej:j=c
   ·rw[ej,if_neg e,Gf.mul_comm z,hz1,Gf.mul_one,UInt8.xor_self]
   ·rw[hu c hc j (by omega),if_neg (show c≠j by omega),Gf.mul_zero,Gf.mul_zero,UInt8.xor_zero]
    exact hu i hi j (by omega)
 ·have hc0:=hx c hc
  rw[(hrow c hc).1,if_pos rfl,z0q]at hc0
  have hc0:U2 (S c) x r=0:=by
   rcases Gf.mul_eq_zero hc0 with h|h
   ·exact absurd h hz0
   ·exact h
  intro i hi
  by_cases e:i=c
  ·rw[e];exact hc0
  ·have:=hx i hi
   rw[(hrow i hi).1,if_neg e,z3x _ (lc i hi),z0q,hc0,Gf.mul_zero,Gf.mul_zero,UInt8.xor_zero]at this
   exact this
 ·have hv:=hvs x y h
  rw[(hrow i hi).1,(hrow i hi).2]
  split
  ·rw[z0q,z0q,hv c hc]
  ·rw[z3x _ (lc i hi),z3x _ (lc2 i hi),z0q,z0q,hv c hc,hv i hi]
theorem x6e {r:Nat}{L:List z6}(hL:L.length=r)(hr:∀ s∈L,s.length=r)(hk:∀ x,q2t r (fun i=>L.getD i []) x→∀ j,j<r→x j=0):∀ c,c≤r→ElI r L c (gs r L c)
 |0,_=>el0 hL hr
 |c+1,hc=>u0n (by omega) (x6e hL hr hk c (by omega)) (w2f (by omega) (x6e hL hr hk c (by omega)) hk)
theorem u0p {r:Nat}{L:List z6}(hL:L.length=r)(hr:∀ s∈L,s.length=r)(hk:∀ x,q2t r (fun i=>L.getD i []) x→∀ j,j<r→x j=0):y0q r L=true:=by
 unfold y0q
 rw[List.all_eq_true]
 intro c hc
 have hc:=List.mem_range.mp hc
 exact k1u (w2f hc (x6e hL hr hk c (by omega)) hk)
theorem x2c {r:Nat}{L:List z6}(hL:L.length=r)(hr:∀ s∈L,s.length=r)(hk:∀ x,q2t r (fun i=>L.getD i []) x→∀ j,j<r→x j=0)(x y:Nat→UInt8)
 (h:∀ i,i<r→U2 (L.getD i []) x r=y i) (i:Nat) (hi:i<r):U2 ((gs r L r).2 i) y r=x i:=by
 have hI:=x6e hL hr hk r (k1w _)
 rw[← hI.val x y h i hi,z2j x (hI.unit i hi),if_pos hi]
end Go.Proofs.YtinfbclgkghgaaaGreat.AL
