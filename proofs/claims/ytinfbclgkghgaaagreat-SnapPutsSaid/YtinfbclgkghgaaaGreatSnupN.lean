/- A part of the proof. -/
import Derived.Test.YtinfbclgkghgaaaGreatSnupM
/- The layer 2 (mat): the product of two matrices,the second one a row of one's own (printed by genmat.py). -/

namespace Go.Proofs.YtinfbclgkghgaaaGreat.AL
open Go Go.Proofs
set_option maxHeartbeats 4000000 in
set_option maxRecDepth 20000 in
theorem w9t (a0:z7)(B:List z7)(q c:Nat)(q1:1≤q)(q2:q≤64)(c1:1≤c)(c2:c≤4096)(hA:∀ s∈([a0]:List z7),s.length=q)(hB:B.length=q)(hBc:∀ s∈B,s.length=c) :
 AFm Tryz.prog 1 J7 [.p (.sl 1 (z4 [a0])),.msl 0 1 0 q] [.row z0 1 (z4 B)] (v9 (.tup [.p (.sl 1 (z4 [x7 a0 B c q])),i64 0]) [.row z0 1 (z4 B)]):=by
 have wA:=J0 [a0] q (show 1≤1 by decide) (show 1≤64 by decide) q1 (by omega) hA
 have wB:=J0 B c (by omega) (by omega) c1 c2 hBc
 have wn:=q3a
 have hcl:=Q2 B
 have h0:=List.getElem?_eq_getElem (show 0<B.length by omega)
 have hc0:=hBc _ (List.getElem_mem (show 0<B.length by omega))
 generalize B[0]=b0 at h0 hc0
 have hx0:(z4 B)[0+(0:Int).toNat]?=some [bP b0]:=Q4 h0
 have hb0:=w9 b0
 have wf:=z1g q0k (bx b0).length (by omega) (fun _ _=>0) (fun i k _ _=>q3h i k)
 have ha0:a0.length=q:=hA a0 (by simp)
 have hx10:=w9 a0
 have hmk0:=Q9 (B:=B) a0 hBc (k:=q) (by omega)
 have wadd:=fun(to row:z7) (x:UInt8) (ht:to.length=c) (hr:row.length=c)=>q5e to row x (by omega) (by omega)
 unfold q2j at wn wadd
 generalize fP=F at wn wadd
 refine Q5 1 hT q3e rfl rfl q3f rfl rfl ?_
 refine q8 (q7 hT ?_)
 have lend:=q8x wB 0 (H:=[.row z0 1 (z4 B)]) (args:=[.msl 0 1 0 q]) (t:=z0) (sz:=1) (xs:=z4 B) rfl ⟨.inr (.inl ⟨congrArg (AV.msl 0 1 0) (show q=(z4 B).length by omega),rfl⟩),trivial⟩ rfl (fun k hk=>by simp at hk)
 refine z8 ⟨⟨65,[(0,.p (.sl 1 (z4 [a0]))),(1,.msl 0 1 0 q)]⟩,[.row z0 1 (z4 B)]⟩ True (q8 (q7 hT ?_)) (fun _=>?_)
 ·refine y9 (w7 wA _ rfl rfl) ?_
  refine y9 lend ?_
  refine⟨by decide,v7 rfl ?_⟩
  refine z2 (y4 (fun h=>?_) (fun h=>?_))
  ·have h:((((bx a0).length:Nat):Int) != ((q:Nat):Int))=true:=h
   rw[bne_iff_ne]at h
   omega
  exact z5 ⟨q9 [0] [0,1] rfl,trivial⟩
 refine q8 (q7 hT ?_)
 refine y9 (w7 wn _ rfl rfl) ?_
 refine y6 (fun st=>∃ c',c'=c∧st=⟨⟨65,[(0,.p (.sl 1 (z4 [a0]))),(1,.msl 0 1 0 q),(6,.p (.box F)),(7,.msl 1 1 0 1)]⟩,[.row z0 1 (z4 B),.cells z0 [.msl 2 1 0 c'],.row z1 1 (bx (u0 (fun _ _=>0) c' 0))]⟩) (q7 hT ?_) ?_
 ·refine⟨⟨by decide,by omega⟩,?_⟩
  refine v7 hx0 ?_
  refine y9 (q1z wf _ rfl) ?_
  exact⟨_,q9 [0,1,2] [0,1,6,7] rfl,_,hb0.trans hc0,rfl⟩
 rintro _ ⟨c,rfl,rfl⟩
 clear wf
 refine z8 ⟨⟨65,[(7,.msl 1 1 0 1)]⟩,[.row z0 1 (z4 B),.cells z0 [.msl 2 1 0 c],.row z1 1 (bx (x7 a0 B c q))]⟩ True (q8 (q7 hT ?_)) (fun _=>?_)
 ·refine z3 ?_
  refine y8 (fun n s=>(n=1∧s=⟨⟨65,[(0,.p (.sl 1 (z4 [a0]))),(1,.msl 0 1 0 q),(6,.p (.box F)),(7,.msl 1 1 0 1),(37,.p (.sl 1 (z4 [a0]))),(38,i64 1),(39,i64 0)]⟩,[.row z0 1 (z4 B),.cells z0 [.msl 2 1 0 c],.row z1 1 (bx (x7 a0 B c 0))]⟩)∨(n=0∧s=⟨⟨65,[(0,.p (.sl 1 (z4 [a0]))),(1,.msl 0 1 0 q),(6,.p (.box F)),(7,.msl 1 1 0 1),(37,.p (.sl 1 (z4 [a0]))),(38,i64 1),(39,i64 1)]⟩,[.row z0 1 (z4 B),.cells z0 [.msl 2 1 0 c],.row z1 1 (bx (x7 a0 B c q))]⟩)) 1 ⟨⟨65,_⟩,_⟩ (q9 [0,1,2] [0,1,6,7,37,38,39] rfl) (.inl ⟨rfl,by rw[q3i a0 B c 0];rfl⟩) ?_
  rintro n s (⟨rfl,rfl⟩|⟨rfl,rfl⟩)
  ·refine q8 (q7 hT ?_)
   refine q8 (z2 ?_)
   refine z5 ?_
   refine z8 ⟨⟨65,[(0,.p (.sl 1 (z4 [a0]))),(1,.msl 0 1 0 q),(6,.p (.box F)),(7,.msl 1 1 0 1),(37,.p (.sl 1 (z4 [a0]))),(38,i64 1),(8,i64 0),(39,i64 0)]⟩,[.row z0 1 (z4 B),.cells z0 [.msl 2 1 0 c],.row z1 1 (bx (x7 a0 B c q))]⟩ True (z3 ?_) (fun _=>?_)
   ·refine q8 (q7 hT ?_)
    refine⟨by decide,v7 rfl ?_⟩
    refine q8 (q7 hT ?_)
    refine z3 ?_
    refine y8 (fun n s=>∃ (k:Nat) (j:Int),n+k=q∧j=k∧s=⟨⟨65,[(0,.p (.sl 1 (z4 [a0]))),(1,.msl 0 1 0 q),(6,.p (.box F)),(7,.msl 1 1 0 1),(37,.p (.sl 1 (z4 [a0]))),(38,i64 1),(8,i64 0),(39,i64 0),(44,bA a0),(45,i64 (bx a0).length),(46,i64 j)]⟩,[.row z0 1 (z4 B),.cells z0 [.msl 2 1 0 c],.row z1 1 (bx (x7 a0 B c k))]⟩) q ⟨⟨65,_⟩,_⟩ (q9 [0,1,2] [0,1,6,7,37,38,8,39,44,45,46] rfl) ⟨0,0,by omega,rfl,rfl⟩ ?_
    rintro n2 s ⟨k,j,hnk,hj,rfl⟩
    refine q8 (q7 hT ?_)
    refine q8 (z2 (y4 (fun h=>?_) (fun h=>?_)))
    ·have h:=of_decide_eq_true (show decide (j<(((bx a0).length:Nat):Int))=true from h)
     have hk:k<a0.length:=by omega
     have hkB:k<B.length:=by omega
     refine z5 ?_
     have hxa:=List.getElem?_eq_getElem hk
     have hxb:=List.getElem?_eq_getElem hkB
     have hst:=W0 c hxa hxb
     have hlb:=hBc _ (List.getElem_mem hkB)
     generalize a0[k]=x at hxa hst
     generalize B[k]=b at hxb hst hlb
     have hxp:(bx a0)[j.toNat]?=some [u8 x]:=by rw[hj,Int.toNat_natCast];exact u9 hxa
     have hbp:(z4 B)[0+j.toNat]?=some [bP b]:=by rw[hj,Int.toNat_natCast,Nat.zero_add];exact Q4 hxb
     have hml:=Q9 (B:=B) a0 hBc (k:=k) (by omega)
     have w:=wadd (x7 a0 B c k) b x hml hlb
     rw[hml,← hst]at w
     refine z8 ⟨⟨65,[(0,.p (.sl 1 (z4 [a0]))),(1,.msl 0 1 0 q),(6,.p (.box F)),(7,.msl 1 1 0 1),(37,.p (.sl 1 (z4 [a0]))),(38,i64 1),(8,i64 0),(39,i64 0),(44,bA a0),(45,i64 (bx a0).length),(46,i64 j)]⟩,[.row z0 1 (z4 B),.cells z0 [.msl 2 1 0 c],.row z1 1 (bx (x7 a0 B c (k+1)))]⟩ True (z3 (q8 (q7 hT ?_))) (fun _=>?_)
     ·refine⟨by omega,v7 hxp ?_⟩
      refine x6 [10] [] hT z6 (by rfl) ?_
      refine⟨by decide,?_⟩
      refine⟨⟨by omega,by omega⟩,?_⟩
      refine v7 hbp ?_
      refine⟨_,_,u6 [2] w rfl rfl rfl,?_⟩
      repeat first|refine⟨rfl,?_⟩|refine⟨⟨by decide,rfl⟩,?_⟩|refine⟨⟨⟨by omega,by omega⟩,rfl⟩,?_⟩|refine⟨v7 hbp rfl,?_⟩
      exact⟨q9 [0,1,2] [0,1,6,7,37,38,8,39,44,45,46] rfl,trivial⟩
     ·refine q7 hT ?_
      exact⟨n2 - 1,by omega,_,q9 [0,1,2] [0,1,6,7,37,38,8,39,44,45,46] rfl,k+1,IntKind.i64.wrap (j+1),by omega,by rw[y7 _ (by omega) (by omega)];omega,rfl⟩
    ·have h:=of_decide_eq_false (show decide (j<(((bx a0).length:Nat):Int))=false from h)
     rw[show k=q by omega]
     refine x9 ?_
     exact⟨q9 [0,1,2] [0,1,6,7,37,38,8,39] rfl,trivial⟩
   ·refine q7 hT ?_
    exact⟨0,by decide,_,q9 [0,1,2] [0,1,6,7,37,38,39] rfl,(.inr ⟨rfl,rfl⟩)⟩
  ·refine q8 (q7 hT ?_)
   refine q8 (z2 ?_)
   refine x9 ?_
   exact⟨q9 [0,1,2] [7] rfl,trivial⟩
 refine Q1 (U8 2 1 0 c rfl rfl rfl (by rw[w9,hmk0])) ?_
 refine Q1 (q1d 1 [bP (x7 a0 B c q)] rfl rfl (show 1≤140737488355328 by decide)) ?_
 refine Q1 (V3 7 1 _ rfl rfl rfl rfl) ?_
 refine q8 (q7 hT ?_)
 refine y5 ?_
 exact z9 [0] ⟨rfl,rfl⟩ rfl
set_option maxHeartbeats 4000000 in
set_option maxRecDepth 20000 in
theorem w9u (a0 a1:z7)(B:List z7)(q c:Nat)(q1:1≤q)(q2:q≤64)(c1:1≤c)(c2:c≤4096)(hA:∀ s∈([a0,a1]:List z7),s.length=q)(hB:B.length=q)(hBc:∀ s∈B,s.length=c) :
 AFm Tryz.prog 1 J7 [.p (.sl 1 (z4 [a0,a1])),.msl 0 1 0 q] [.row z0 1 (z4 B)] (v9 (.tup [.p (.sl 1 (z4 [x7 a0 B c q,x7 a1 B c q])),i64 0]) [.row z0 1 (z4 B)]):=by
 have wA:=J0 [a0,a1] q (show 1≤2 by decide) (show 2≤64 by decide) q1 (by omega) hA
 have wB:=J0 B c (by omega) (by omega) c1 c2 hBc
 have wn:=q3a
 have hcl:=Q2 B
 have h0:=List.getElem?_eq_getElem (show 0<B.length by omega)
 have hc0:=hBc _ (List.getElem_mem (show 0<B.length by omega))
 generalize B[0]=b0 at h0 hc0
 have hx0:(z4 B)[0+(0:Int).toNat]?=some [bP b0]:=Q4 h0
 have hb0:=w9 b0
 have wf:=z1h q0k (bx b0).length (by omega) (fun _ _=>0) (fun i k _ _=>q3h i k)
 have ha0:a0.length=q:=hA a0 (by simp)
 have hx10:=w9 a0
 have ha1:a1.length=q:=hA a1 (by simp)
 have hx11:=w9 a1
 have hmk0:=Q9 (B:=B) a0 hBc (k:=q) (by omega)
 have hmk1:=Q9 (B:=B) a1 hBc (k:=q) (by omega)
 have wadd:=fun(to row:z7) (x:UInt8) (ht:to.length=c) (hr:row.length=c)=>q5e to row x (by omega) (by omega)
 unfold q2j at wn wadd
 generalize fP=F at wn wadd
 refine Q5 1 hT q3e rfl rfl q3f rfl rfl ?_
 refine q8 (q7 hT ?_)
 have lend:=q8x wB 0 (H:=[.row z0 1 (z4 B)]) (args:=[.msl 0 1 0 q]) (t:=z0) (sz:=1) (xs:=z4 B) rfl ⟨.inr (.inl ⟨congrArg (AV.msl 0 1 0) (show q=(z4 B).length by omega),rfl⟩),trivial⟩ rfl (fun k hk=>by simp at hk)
 refine z8 ⟨⟨65,[(0,.p (.sl 1 (z4 [a0,a1]))),(1,.msl 0 1 0 q)]⟩,[.row z0 1 (z4 B)]⟩ True (q8 (q7 hT ?_)) (fun _=>?_)
 ·refine y9 (w7 wA _ rfl rfl) ?_
  refine y9 lend ?_
  refine⟨by decide,v7 rfl ?_⟩
  refine z2 (y4 (fun h=>?_) (fun h=>?_))
  ·have h:((((bx a0).length:Nat):Int) != ((q:Nat):Int))=true:=h
   rw[bne_iff_ne]at h
   omega
  exact z5 ⟨q9 [0] [0,1] rfl,trivial⟩
 refine q8 (q7 hT ?_)
 refine y9 (w7 wn _ rfl rfl) ?_
 refine y6 (fun st=>∃ c',c'=c∧st=⟨⟨65,[(0,.p (.sl 1 (z4 [a0,a1]))),(1,.msl 0 1 0 q),(6,.p (.box F)),(7,.msl 1 1 0 2)]⟩,[.row z0 1 (z4 B),.cells z0 [.msl 2 1 0 c',.msl 3 1 0 c'],.row z1 1 (bx (u0 (fun _ _=>0) c' 0)),.row z1 1 (bx (u0 (fun _ _=>0) c' 1))]⟩) (q7 hT ?_) ?_
 ·refine⟨⟨by decide,by omega⟩,?_⟩
  refine v7 hx0 ?_
  refine y9 (q1z wf _ rfl) ?_
  exact⟨_,q9 [0,1,2,3] [0,1,6,7] rfl,_,hb0.trans hc0,rfl⟩
 rintro _ ⟨c,rfl,rfl⟩
 clear wf
 refine z8 ⟨⟨65,[(7,.msl 1 1 0 2)]⟩,[.row z0 1 (z4 B),.cells z0 [.msl 2 1 0 c,.msl 3 1 0 c],.row z1 1 (bx (x7 a0 B c q)),.row z1 1 (bx (x7 a1 B c q))]⟩ True (q8 (q7 hT ?_)) (fun _=>?_)
 ·refine z3 ?_
  refine y8 (fun n s=>(n=2∧s=⟨⟨65,[(0,.p (.sl 1 (z4 [a0,a1]))),(1,.msl 0 1 0 q),(6,.p (.box F)),(7,.msl 1 1 0 2),(37,.p (.sl 1 (z4 [a0,a1]))),(38,i64 2),(39,i64 0)]⟩,[.row z0 1 (z4 B),.cells z0 [.msl 2 1 0 c,.msl 3 1 0 c],.row z1 1 (bx (x7 a0 B c 0)),.row z1 1 (bx (x7 a1 B c 0))]⟩)∨(n=1∧s=⟨⟨65,[(0,.p (.sl 1 (z4 [a0,a1]))),(1,.msl 0 1 0 q),(6,.p (.box F)),(7,.msl 1 1 0 2),(37,.p (.sl 1 (z4 [a0,a1]))),(38,i64 2),(39,i64 1)]⟩,[.row z0 1 (z4 B),.cells z0 [.msl 2 1 0 c,.msl 3 1 0 c],.row z1 1 (bx (x7 a0 B c q)),.row z1 1 (bx (x7 a1 B c 0))]⟩)∨(n=0∧s=⟨⟨65,[(0,.p (.sl 1 (z4 [a0,a1]))),(1,.msl 0 1 0 q),(6,.p (.box F)),(7,.msl 1 1 0 2),(37,.p (.sl 1 (z4 [a0,a1]))),(38,i64 2),(39,i64 2)]⟩,[.row z0 1 (z4 B),.cells z0 [.msl 2 1 0 c,.msl 3 1 0 c],.row z1 1 (bx (x7 a0 B c q)),.row z1 1 (bx (x7 a1 B c q))]⟩)) 2 ⟨⟨65,_⟩,_⟩ (q9 [0,1,2,3] [0,1,6,7,37,38,39] rfl) (.inl ⟨rfl,by rw[q3i a0 B c 0,q3i a1 B c 1];rfl⟩) ?_
  rintro n s (⟨rfl,rfl⟩|⟨rfl,rfl⟩|⟨rfl,rfl⟩)
  ·refine q8 (q7 hT ?_)
   refine q8 (z2 ?_)
   refine z5 ?_
   refine z8 ⟨⟨65,[(0,.p (.sl 1 (z4 [a0,a1]))),(1,.msl 0 1 0 q),(6,.p (.box F)),(7,.msl 1 1 0 2),(37,.p (.sl 1 (z4 [a0,a1]))),(38,i64 2),(8,i64 0),(39,i64 0)]⟩,[.row z0 1 (z4 B),.cells z0 [.msl 2 1 0 c,.msl 3 1 0 c],.row z1 1 (bx (x7 a0 B c q)),.row z1 1 (bx (x7 a1 B c 0))]⟩ True (z3 ?_) (fun _=>?_)
   ·refine q8 (q7 hT ?_)
    refine⟨by decide,v7 rfl ?_⟩
    refine q8 (q7 hT ?_)
    refine z3 ?_
    refine y8 (fun n s=>∃ (k:Nat) (j:Int),n+k=q∧j=k∧s=⟨⟨65,[(0,.p (.sl 1 (z4 [a0,a1]))),(1,.msl 0 1 0 q),(6,.p (.box F)),(7,.msl 1 1 0 2),(37,.p (.sl 1 (z4 [a0,a1]))),(38,i64 2),(8,i64 0),(39,i64 0),(44,bA a0),(45,i64 (bx a0).length),(46,i64 j)]⟩,[.row z0 1 (z4 B),.cells z0 [.msl 2 1 0 c,.msl 3 1 0 c],.row z1 1 (bx (x7 a0 B c k)),.row z1 1 (bx (x7 a1 B c 0))]⟩) q ⟨⟨65,_⟩,_⟩ (q9 [0,1,2,3] [0,1,6,7,37,38,8,39,44,45,46] rfl) ⟨0,0,by omega,rfl,rfl⟩ ?_
    rintro n2 s ⟨k,j,hnk,hj,rfl⟩
    refine q8 (q7 hT ?_)
    refine q8 (z2 (y4 (fun h=>?_) (fun h=>?_)))
    ·have h:=of_decide_eq_true (show decide (j<(((bx a0).length:Nat):Int))=true from h)
     have hk:k<a0.length:=by omega
     have hkB:k<B.length:=by omega
     refine z5 ?_
     have hxa:=List.getElem?_eq_getElem hk
     have hxb:=List.getElem?_eq_getElem hkB
     have hst:=W0 c hxa hxb
     have hlb:=hBc _ (List.getElem_mem hkB)
     generalize a0[k]=x at hxa hst
     generalize B[k]=b at hxb hst hlb
     have hxp:(bx a0)[j.toNat]?=some [u8 x]:=by rw[hj,Int.toNat_natCast];exact u9 hxa
     have hbp:(z4 B)[0+j.toNat]?=some [bP b]:=by rw[hj,Int.toNat_natCast,Nat.zero_add];exact Q4 hxb
     have hml:=Q9 (B:=B) a0 hBc (k:=k) (by omega)
     have w:=wadd (x7 a0 B c k) b x hml hlb
     rw[hml,← hst]at w
     refine z8 ⟨⟨65,[(0,.p (.sl 1 (z4 [a0,a1]))),(1,.msl 0 1 0 q),(6,.p (.box F)),(7,.msl 1 1 0 2),(37,.p (.sl 1 (z4 [a0,a1]))),(38,i64 2),(8,i64 0),(39,i64 0),(44,bA a0),(45,i64 (bx a0).length),(46,i64 j)]⟩,[.row z0 1 (z4 B),.cells z0 [.msl 2 1 0 c,.msl 3 1 0 c],.row z1 1 (bx (x7 a0 B c (k+1))),.row z1 1 (bx (x7 a1 B c 0))]⟩ True (z3 (q8 (q7 hT ?_))) (fun _=>?_)
     ·refine⟨by omega,v7 hxp ?_⟩
      refine x6 [10] [] hT z6 (by rfl) ?_
      refine⟨by decide,?_⟩
      refine⟨⟨by omega,by omega⟩,?_⟩
      refine v7 hbp ?_
      refine⟨_,_,u6 [2] w rfl rfl rfl,?_⟩
      repeat first|refine⟨rfl,?_⟩|refine⟨⟨by decide,rfl⟩,?_⟩|refine⟨⟨⟨by omega,by omega⟩,rfl⟩,?_⟩|refine⟨v7 hbp rfl,?_⟩
      exact⟨q9 [0,1,2,3] [0,1,6,7,37,38,8,39,44,45,46] rfl,trivial⟩
     ·refine q7 hT ?_
      exact⟨n2 - 1,by omega,_,q9 [0,1,2,3] [0,1,6,7,37,38,8,39,44,45,46] rfl,k+1,IntKind.i64.wrap (j+1),by omega,by rw[y7 _ (by omega) (by omega)];omega,rfl⟩
    ·have h:=of_decide_eq_false (show decide (j<(((bx a0).length:Nat):Int))=false from h)
     rw[show k=q by omega]
     refine x9 ?_
     exact⟨q9 [0,1,2,3] [0,1,6,7,37,38,8,39] rfl,trivial⟩
   ·refine q7 hT ?_
    exact⟨1,by decide,_,q9 [0,1,2,3] [0,1,6,7,37,38,39] rfl,(.inr (.inl ⟨rfl,rfl⟩))⟩
  ·refine q8 (q7 hT ?_)
   refine q8 (z2 ?_)
   refine z5 ?_
   refine z8 ⟨⟨65,[(0,.p (.sl 1 (z4 [a0,a1]))),(1,.msl 0 1 0 q),(6,.p (.box F)),(7,.msl 1 1 0 2),(37,.p (.sl 1 (z4 [a0,a1]))),(38,i64 2),(8,i64 1),(39,i64 1)]⟩,[.row z0 1 (z4 B),.cells z0 [.msl 2 1 0 c,.msl 3 1 0 c],.row z1 1 (bx (x7 a0 B c q)),.row z1 1 (bx (x7 a1 B c q))]⟩ True (z3 ?_) (fun _=>?_)
   ·refine q8 (q7 hT ?_)
    refine⟨by decide,v7 rfl ?_⟩
    refine q8 (q7 hT ?_)
    refine z3 ?_
    refine y8 (fun n s=>∃ (k:Nat) (j:Int),n+k=q∧j=k∧s=⟨⟨65,[(0,.p (.sl 1 (z4 [a0,a1]))),(1,.msl 0 1 0 q),(6,.p (.box F)),(7,.msl 1 1 0 2),(37,.p (.sl 1 (z4 [a0,a1]))),(38,i64 2),(8,i64 1),(39,i64 1),(44,bA a1),(45,i64 (bx a1).length),(46,i64 j)]⟩,[.row z0 1 (z4 B),.cells z0 [.msl 2 1 0 c,.msl 3 1 0 c],.row z1 1 (bx (x7 a0 B c q)),.row z1 1 (bx (x7 a1 B c k))]⟩) q ⟨⟨65,_⟩,_⟩ (q9 [0,1,2,3] [0,1,6,7,37,38,8,39,44,45,46] rfl) ⟨0,0,by omega,rfl,rfl⟩ ?_
    rintro n2 s ⟨k,j,hnk,hj,rfl⟩
    refine q8 (q7 hT ?_)
    refine q8 (z2 (y4 (fun h=>?_) (fun h=>?_)))
    ·have h:=of_decide_eq_true (show decide (j<(((bx a1).length:Nat):Int))=true from h)
     have hk:k<a1.length:=by omega
     have hkB:k<B.length:=by omega
     refine z5 ?_
     have hxa:=List.getElem?_eq_getElem hk
     have hxb:=List.getElem?_eq_getElem hkB
     have hst:=W0 c hxa hxb
     have hlb:=hBc _ (List.getElem_mem hkB)
     generalize a1[k]=x at hxa hst
     generalize B[k]=b at hxb hst hlb
     have hxp:(bx a1)[j.toNat]?=some [u8 x]:=by rw[hj,Int.toNat_natCast];exact u9 hxa
     have hbp:(z4 B)[0+j.toNat]?=some [bP b]:=by rw[hj,Int.toNat_natCast,Nat.zero_add];exact Q4 hxb
     have hml:=Q9 (B:=B) a1 hBc (k:=k) (by omega)
     have w:=wadd (x7 a1 B c k) b x hml hlb
     rw[hml,← hst]at w
     refine z8 ⟨⟨65,[(0,.p (.sl 1 (z4 [a0,a1]))),(1,.msl 0 1 0 q),(6,.p (.box F)),(7,.msl 1 1 0 2),(37,.p (.sl 1 (z4 [a0,a1]))),(38,i64 2),(8,i64 1),(39,i64 1),(44,bA a1),(45,i64 (bx a1).length),(46,i64 j)]⟩,[.row z0 1 (z4 B),.cells z0 [.msl 2 1 0 c,.msl 3 1 0 c],.row z1 1 (bx (x7 a0 B c q)),.row z1 1 (bx (x7 a1 B c (k+1)))]⟩ True (z3 (q8 (q7 hT ?_))) (fun _=>?_)
     ·refine⟨by omega,v7 hxp ?_⟩
      refine x6 [10] [] hT z6 (by rfl) ?_
      refine⟨by decide,?_⟩
      refine⟨⟨by omega,by omega⟩,?_⟩
      refine v7 hbp ?_
      refine⟨_,_,u6 [3] w rfl rfl rfl,?_⟩
      repeat first|refine⟨rfl,?_⟩|refine⟨⟨by decide,rfl⟩,?_⟩|refine⟨⟨⟨by omega,by omega⟩,rfl⟩,?_⟩|refine⟨v7 hbp rfl,?_⟩
      exact⟨q9 [0,1,2,3] [0,1,6,7,37,38,8,39,44,45,46] rfl,trivial⟩
     ·refine q7 hT ?_
      exact⟨n2 - 1,by omega,_,q9 [0,1,2,3] [0,1,6,7,37,38,8,39,44,45,46] rfl,k+1,IntKind.i64.wrap (j+1),by omega,by rw[y7 _ (by omega) (by omega)];omega,rfl⟩
    ·have h:=of_decide_eq_false (show decide (j<(((bx a1).length:Nat):Int))=false from h)
     rw[show k=q by omega]
     refine x9 ?_
     exact⟨q9 [0,1,2,3] [0,1,6,7,37,38,8,39] rfl,trivial⟩
   ·refine q7 hT ?_
    exact⟨0,by decide,_,q9 [0,1,2,3] [0,1,6,7,37,38,39] rfl,(.inr (.inr ⟨rfl,rfl⟩))⟩
  ·refine q8 (q7 hT ?_)
   refine q8 (z2 ?_)
   refine x9 ?_
   exact⟨q9 [0,1,2,3] [7] rfl,trivial⟩
 refine Q1 (U8 2 1 0 c rfl rfl rfl (by rw[w9,hmk0])) ?_
 refine Q1 (U8 3 1 1 c rfl rfl rfl (by rw[w9,hmk1])) ?_
 refine Q1 (q1d 1 [bP (x7 a0 B c q),bP (x7 a1 B c q)] rfl rfl (show 2≤140737488355328 by decide)) ?_
 refine Q1 (V3 7 1 _ rfl rfl rfl rfl) ?_
 refine q8 (q7 hT ?_)
 refine y5 ?_
 exact z9 [0] ⟨rfl,rfl⟩ rfl
set_option maxHeartbeats 4000000 in
set_option maxRecDepth 20000 in
theorem w9v (a0 a1 a2:z7)(B:List z7)(q c:Nat)(q1:1≤q)(q2:q≤64)(c1:1≤c)(c2:c≤4096)(hA:∀ s∈([a0,a1,a2]:List z7),s.length=q)(hB:B.length=q)(hBc:∀ s∈B,s.length=c) :
 AFm Tryz.prog 1 J7 [.p (.sl 1 (z4 [a0,a1,a2])),.msl 0 1 0 q] [.row z0 1 (z4 B)] (v9 (.tup [.p (.sl 1 (z4 [x7 a0 B c q,x7 a1 B c q,x7 a2 B c q])),i64 0]) [.row z0 1 (z4 B)]):=by
 have wA:=J0 [a0,a1,a2] q (show 1≤3 by decide) (show 3≤64 by decide) q1 (by omega) hA
 have wB:=J0 B c (by omega) (by omega) c1 c2 hBc
 have wn:=q3a
 have hcl:=Q2 B
 have h0:=List.getElem?_eq_getElem (show 0<B.length by omega)
 have hc0:=hBc _ (List.getElem_mem (show 0<B.length by omega))
 generalize B[0]=b0 at h0 hc0
 have hx0:(z4 B)[0+(0:Int).toNat]?=some [bP b0]:=Q4 h0
 have hb0:=w9 b0
 have wf:=z1i q0k (bx b0).length (by omega) (fun _ _=>0) (fun i k _ _=>q3h i k)
 have ha0:a0.length=q:=hA a0 (by simp)
 have hx10:=w9 a0
 have ha1:a1.length=q:=hA a1 (by simp)
 have hx11:=w9 a1
 have ha2:a2.length=q:=hA a2 (by simp)
 have hx12:=w9 a2
 have hmk0:=Q9 (B:=B) a0 hBc (k:=q) (by omega)
 have hmk1:=Q9 (B:=B) a1 hBc (k:=q) (by omega)
 have hmk2:=Q9 (B:=B) a2 hBc (k:=q) (by omega)
 have wadd:=fun(to row:z7) (x:UInt8) (ht:to.length=c) (hr:row.length=c)=>q5e to row x (by omega) (by omega)
 unfold q2j at wn wadd
 generalize fP=F at wn wadd
 refine Q5 1 hT q3e rfl rfl q3f rfl rfl ?_
 refine q8 (q7 hT ?_)
 have lend:=q8x wB 0 (H:=[.row z0 1 (z4 B)]) (args:=[.msl 0 1 0 q]) (t:=z0) (sz:=1) (xs:=z4 B) rfl ⟨.inr (.inl ⟨congrArg (AV.msl 0 1 0) (show q=(z4 B).length by omega),rfl⟩),trivial⟩ rfl (fun k hk=>by simp at hk)
 refine z8 ⟨⟨65,[(0,.p (.sl 1 (z4 [a0,a1,a2]))),(1,.msl 0 1 0 q)]⟩,[.row z0 1 (z4 B)]⟩ True (q8 (q7 hT ?_)) (fun _=>?_)
 ·refine y9 (w7 wA _ rfl rfl) ?_
  refine y9 lend ?_
  refine⟨by decide,v7 rfl ?_⟩
  refine z2 (y4 (fun h=>?_) (fun h=>?_))
  ·have h:((((bx a0).length:Nat):Int) != ((q:Nat):Int))=true:=h
   rw[bne_iff_ne]at h
   omega
  exact z5 ⟨q9 [0] [0,1] rfl,trivial⟩
 refine q8 (q7 hT ?_)
 refine y9 (w7 wn _ rfl rfl) ?_
 refine y6 (fun st=>∃ c',c'=c∧st=⟨⟨65,[(0,.p (.sl 1 (z4 [a0,a1,a2]))),(1,.msl 0 1 0 q),(6,.p (.box F)),(7,.msl 1 1 0 3)]⟩,[.row z0 1 (z4 B),.cells z0 [.msl 2 1 0 c',.msl 3 1 0 c',.msl 4 1 0 c'],.row z1 1 (bx (u0 (fun _ _=>0) c' 0)),.row z1 1 (bx (u0 (fun _ _=>0) c' 1)),.row z1 1 (bx (u0 (fun _ _=>0) c' 2))]⟩) (q7 hT ?_) ?_
 ·refine⟨⟨by decide,by omega⟩,?_⟩
  refine v7 hx0 ?_
  refine y9 (q1z wf _ rfl) ?_
  exact⟨_,q9 [0,1,2,3,4] [0,1,6,7] rfl,_,hb0.trans hc0,rfl⟩
 rintro _ ⟨c,rfl,rfl⟩
 clear wf
 refine z8 ⟨⟨65,[(7,.msl 1 1 0 3)]⟩,[.row z0 1 (z4 B),.cells z0 [.msl 2 1 0 c,.msl 3 1 0 c,.msl 4 1 0 c],.row z1 1 (bx (x7 a0 B c q)),.row z1 1 (bx (x7 a1 B c q)),.row z1 1 (bx (x7 a2 B c q))]⟩ True (q8 (q7 hT ?_)) (fun _=>?_)
 ·refine z3 ?_
  refine y8 (fun n s=>(n=3∧s=⟨⟨65,[(0,.p (.sl 1 (z4 [a0,a1,a2]))),(1,.msl 0 1 0 q),(6,.p (.box F)),(7,.msl 1 1 0 3),(37,.p (.sl 1 (z4 [a0,a1,a2]))),(38,i64 3),(39,i64 0)]⟩,[.row z0 1 (z4 B),.cells z0 [.msl 2 1 0 c,.msl 3 1 0 c,.msl 4 1 0 c],.row z1 1 (bx (x7 a0 B c 0)),.row z1 1 (bx (x7 a1 B c 0)),.row z1 1 (bx (x7 a2 B c 0))]⟩)∨(n=2∧s=⟨⟨65,[(0,.p (.sl 1 (z4 [a0,a1,a2]))),(1,.msl 0 1 0 q),(6,.p (.box F)),(7,.msl 1 1 0 3),(37,.p (.sl 1 (z4 [a0,a1,a2]))),(38,i64 3),(39,i64 1)]⟩,[.row z0 1 (z4 B),.cells z0 [.msl 2 1 0 c,.msl 3 1 0 c,.msl 4 1 0 c],.row z1 1 (bx (x7 a0 B c q)),.row z1 1 (bx (x7 a1 B c 0)),.row z1 1 (bx (x7 a2 B c 0))]⟩)∨(n=1∧s=⟨⟨65,[(0,.p (.sl 1 (z4 [a0,a1,a2]))),(1,.msl 0 1 0 q),(6,.p (.box F)),(7,.msl 1 1 0 3),(37,.p (.sl 1 (z4 [a0,a1,a2]))),(38,i64 3),(39,i64 2)]⟩,[.row z0 1 (z4 B),.cells z0 [.msl 2 1 0 c,.msl 3 1 0 c,.msl 4 1 0 c],.row z1 1 (bx (x7 a0 B c q)),.row z1 1 (bx (x7 a1 B c q)),.row z1 1 (bx (x7 a2 B c 0))]⟩)∨(n=0∧s=⟨⟨65,[(0,.p (.sl 1 (z4 [a0,a1,a2]))),(1,.msl 0 1 0 q),(6,.p (.box F)),(7,.msl 1 1 0 3),(37,.p (.sl 1 (z4 [a0,a1,a2]))),(38,i64 3),(39,i64 3)]⟩,[.row z0 1 (z4 B),.cells z0 [.msl 2 1 0 c,.msl 3 1 0 c,.msl 4 1 0 c],.row z1 1 (bx (x7 a0 B c q)),.row z1 1 (bx (x7 a1 B c q)),.row z1 1 (bx (x7 a2 B c q))]⟩)) 3 ⟨⟨65,_⟩,_⟩ (q9 [0,1,2,3,4] [0,1,6,7,37,38,39] rfl) (.inl ⟨rfl,by rw[q3i a0 B c 0,q3i a1 B c 1,q3i a2 B c 2];rfl⟩) ?_
  rintro n s (⟨rfl,rfl⟩|⟨rfl,rfl⟩|⟨rfl,rfl⟩|⟨rfl,rfl⟩)
  ·refine q8 (q7 hT ?_)
   refine q8 (z2 ?_)
   refine z5 ?_
   refine z8 ⟨⟨65,[(0,.p (.sl 1 (z4 [a0,a1,a2]))),(1,.msl 0 1 0 q),(6,.p (.box F)),(7,.msl 1 1 0 3),(37,.p (.sl 1 (z4 [a0,a1,a2]))),(38,i64 3),(8,i64 0),(39,i64 0)]⟩,[.row z0 1 (z4 B),.cells z0 [.msl 2 1 0 c,.msl 3 1 0 c,.msl 4 1 0 c],.row z1 1 (bx (x7 a0 B c q)),.row z1 1 (bx (x7 a1 B c 0)),.row z1 1 (bx (x7 a2 B c 0))]⟩ True (z3 ?_) (fun _=>?_)
   ·refine q8 (q7 hT ?_)
    refine⟨by decide,v7 rfl ?_⟩
    refine q8 (q7 hT ?_)
    refine z3 ?_
    refine y8 (fun n s=>∃ (k:Nat) (j:Int),n+k=q∧j=k∧s=⟨⟨65,[(0,.p (.sl 1 (z4 [a0,a1,a2]))),(1,.msl 0 1 0 q),(6,.p (.box F)),(7,.msl 1 1 0 3),(37,.p (.sl 1 (z4 [a0,a1,a2]))),(38,i64 3),(8,i64 0),(39,i64 0),(44,bA a0),(45,i64 (bx a0).length),(46,i64 j)]⟩,[.row z0 1 (z4 B),.cells z0 [.msl 2 1 0 c,.msl 3 1 0 c,.msl 4 1 0 c],.row z1 1 (bx (x7 a0 B c k)),.row z1 1 (bx (x7 a1 B c 0)),.row z1 1 (bx (x7 a2 B c 0))]⟩) q ⟨⟨65,_⟩,_⟩ (q9 [0,1,2,3,4] [0,1,6,7,37,38,8,39,44,45,46] rfl) ⟨0,0,by omega,rfl,rfl⟩ ?_
    rintro n2 s ⟨k,j,hnk,hj,rfl⟩
    refine q8 (q7 hT ?_)
    refine q8 (z2 (y4 (fun h=>?_) (fun h=>?_)))
    ·have h:=of_decide_eq_true (show decide (j<(((bx a0).length:Nat):Int))=true from h)
     have hk:k<a0.length:=by omega
     have hkB:k<B.length:=by omega
     refine z5 ?_
     have hxa:=List.getElem?_eq_getElem hk
     have hxb:=List.getElem?_eq_getElem hkB
     have hst:=W0 c hxa hxb
     have hlb:=hBc _ (List.getElem_mem hkB)
     generalize a0[k]=x at hxa hst
     generalize B[k]=b at hxb hst hlb
     have hxp:(bx a0)[j.toNat]?=some [u8 x]:=by rw[hj,Int.toNat_natCast];exact u9 hxa
     have hbp:(z4 B)[0+j.toNat]?=some [bP b]:=by rw[hj,Int.toNat_natCast,Nat.zero_add];exact Q4 hxb
     have hml:=Q9 (B:=B) a0 hBc (k:=k) (by omega)
     have w:=wadd (x7 a0 B c k) b x hml hlb
     rw[hml,← hst]at w
     refine z8 ⟨⟨65,[(0,.p (.sl 1 (z4 [a0,a1,a2]))),(1,.msl 0 1 0 q),(6,.p (.box F)),(7,.msl 1 1 0 3),(37,.p (.sl 1 (z4 [a0,a1,a2]))),(38,i64 3),(8,i64 0),(39,i64 0),(44,bA a0),(45,i64 (bx a0).length),(46,i64 j)]⟩,[.row z0 1 (z4 B),.cells z0 [.msl 2 1 0 c,.msl 3 1 0 c,.msl 4 1 0 c],.row z1 1 (bx (x7 a0 B c (k+1))),.row z1 1 (bx (x7 a1 B c 0)),.row z1 1 (bx (x7 a2 B c 0))]⟩ True (z3 (q8 (q7 hT ?_))) (fun _=>?_)
     ·refine⟨by omega,v7 hxp ?_⟩
      refine x6 [10] [] hT z6 (by rfl) ?_
      refine⟨by decide,?_⟩
      refine⟨⟨by omega,by omega⟩,?_⟩
      refine v7 hbp ?_
      refine⟨_,_,u6 [2] w rfl rfl rfl,?_⟩
      repeat first|refine⟨rfl,?_⟩|refine⟨⟨by decide,rfl⟩,?_⟩|refine⟨⟨⟨by omega,by omega⟩,rfl⟩,?_⟩|refine⟨v7 hbp rfl,?_⟩
      exact⟨q9 [0,1,2,3,4] [0,1,6,7,37,38,8,39,44,45,46] rfl,trivial⟩
     ·refine q7 hT ?_
      exact⟨n2 - 1,by omega,_,q9 [0,1,2,3,4] [0,1,6,7,37,38,8,39,44,45,46] rfl,k+1,IntKind.i64.wrap (j+1),by omega,by rw[y7 _ (by omega) (by omega)];omega,rfl⟩
    ·have h:=of_decide_eq_false (show decide (j<(((bx a0).length:Nat):Int))=false from h)
     rw[show k=q by omega]
     refine x9 ?_
     exact⟨q9 [0,1,2,3,4] [0,1,6,7,37,38,8,39] rfl,trivial⟩
   ·refine q7 hT ?_
    exact⟨2,by decide,_,q9 [0,1,2,3,4] [0,1,6,7,37,38,39] rfl,(.inr (.inl ⟨rfl,rfl⟩))⟩
  ·refine q8 (q7 hT ?_)
   refine q8 (z2 ?_)
   refine z5 ?_
   refine z8 ⟨⟨65,[(0,.p (.sl 1 (z4 [a0,a1,a2]))),(1,.msl 0 1 0 q),(6,.p (.box F)),(7,.msl 1 1 0 3),(37,.p (.sl 1 (z4 [a0,a1,a2]))),(38,i64 3),(8,i64 1),(39,i64 1)]⟩,[.row z0 1 (z4 B),.cells z0 [.msl 2 1 0 c,.msl 3 1 0 c,.msl 4 1 0 c],.row z1 1 (bx (x7 a0 B c q)),.row z1 1 (bx (x7 a1 B c q)),.row z1 1 (bx (x7 a2 B c 0))]⟩ True (z3 ?_) (fun _=>?_)
   ·refine q8 (q7 hT ?_)
    refine⟨by decide,v7 rfl ?_⟩
    refine q8 (q7 hT ?_)
    refine z3 ?_
    refine y8 (fun n s=>∃ (k:Nat) (j:Int),n+k=q∧j=k∧s=⟨⟨65,[(0,.p (.sl 1 (z4 [a0,a1,a2]))),(1,.msl 0 1 0 q),(6,.p (.box F)),(7,.msl 1 1 0 3),(37,.p (.sl 1 (z4 [a0,a1,a2]))),(38,i64 3),(8,i64 1),(39,i64 1),(44,bA a1),(45,i64 (bx a1).length),(46,i64 j)]⟩,[.row z0 1 (z4 B),.cells z0 [.msl 2 1 0 c,.msl 3 1 0 c,.msl 4 1 0 c],.row z1 1 (bx (x7 a0 B c q)),.row z1 1 (bx (x7 a1 B c k)),.row z1 1 (bx (x7 a2 B c 0))]⟩) q ⟨⟨65,_⟩,_⟩ (q9 [0,1,2,3,4] [0,1,6,7,37,38,8,39,44,45,46] rfl) ⟨0,0,by omega,rfl,rfl⟩ ?_
    rintro n2 s ⟨k,j,hnk,hj,rfl⟩
    refine q8 (q7 hT ?_)
    refine q8 (z2 (y4 (fun h=>?_) (fun h=>?_)))
    ·have h:=of_decide_eq_true (show decide (j<(((bx a1).length:Nat):Int))=true from h)
     have hk:k<a1.length:=by omega
     have hkB:k<B.length:=by omega
     refine z5 ?_
     have hxa:=List.getElem?_eq_getElem hk
     have hxb:=List.getElem?_eq_getElem hkB
     have hst:=W0 c hxa hxb
     have hlb:=hBc _ (List.getElem_mem hkB)
     generalize a1[k]=x at hxa hst
     generalize B[k]=b at hxb hst hlb
     have hxp:(bx a1)[j.toNat]?=some [u8 x]:=by rw[hj,Int.toNat_natCast];exact u9 hxa
     have hbp:(z4 B)[0+j.toNat]?=some [bP b]:=by rw[hj,Int.toNat_natCast,Nat.zero_add];exact Q4 hxb
     have hml:=Q9 (B:=B) a1 hBc (k:=k) (by omega)
     have w:=wadd (x7 a1 B c k) b x hml hlb
     rw[hml,← hst]at w
     refine z8 ⟨⟨65,[(0,.p (.sl 1 (z4 [a0,a1,a2]))),(1,.msl 0 1 0 q),(6,.p (.box F)),(7,.msl 1 1 0 3),(37,.p (.sl 1 (z4 [a0,a1,a2]))),(38,i64 3),(8,i64 1),(39,i64 1),(44,bA a1),(45,i64 (bx a1).length),(46,i64 j)]⟩,[.row z0 1 (z4 B),.cells z0 [.msl 2 1 0 c,.msl 3 1 0 c,.msl 4 1 0 c],.row z1 1 (bx (x7 a0 B c q)),.row z1 1 (bx (x7 a1 B c (k+1))),.row z1 1 (bx (x7 a2 B c 0))]⟩ True (z3 (q8 (q7 hT ?_))) (fun _=>?_)
     ·refine⟨by omega,v7 hxp ?_⟩
      refine x6 [10] [] hT z6 (by rfl) ?_
      refine⟨by decide,?_⟩
      refine⟨⟨by omega,by omega⟩,?_⟩
      refine v7 hbp ?_
      refine⟨_,_,u6 [3] w rfl rfl rfl,?_⟩
      repeat first|refine⟨rfl,?_⟩|refine⟨⟨by decide,rfl⟩,?_⟩|refine⟨⟨⟨by omega,by omega⟩,rfl⟩,?_⟩|refine⟨v7 hbp rfl,?_⟩
      exact⟨q9 [0,1,2,3,4] [0,1,6,7,37,38,8,39,44,45,46] rfl,trivial⟩
     ·refine q7 hT ?_
      exact⟨n2 - 1,by omega,_,q9 [0,1,2,3,4] [0,1,6,7,37,38,8,39,44,45,46] rfl,k+1,IntKind.i64.wrap (j+1),by omega,by rw[y7 _ (by omega) (by omega)];omega,rfl⟩
    ·have h:=of_decide_eq_false (show decide (j<(((bx a1).length:Nat):Int))=false from h)
     rw[show k=q by omega]
     refine x9 ?_
     exact⟨q9 [0,1,2,3,4] [0,1,6,7,37,38,8,39] rfl,trivial⟩
   ·refine q7 hT ?_
    exact⟨1,by decide,_,q9 [0,1,2,3,4] [0,1,6,7,37,38,39] rfl,(.inr (.inr (.inl ⟨rfl,rfl⟩)))⟩
  ·refine q8 (q7 hT ?_)
   refine q8 (z2 ?_)
   refine z5 ?_
   refine z8 ⟨⟨65,[(0,.p (.sl 1 (z4 [a0,a1,a2]))),(1,.msl 0 1 0 q),(6,.p (.box F)),(7,.msl 1 1 0 3),(37,.p (.sl 1 (z4 [a0,a1,a2]))),(38,i64 3),(8,i64 2),(39,i64 2)]⟩,[.row z0 1 (z4 B),.cells z0 [.msl 2 1 0 c,.msl 3 1 0 c,.msl 4 1 0 c],.row z1 1 (bx (x7 a0 B c q)),.row z1 1 (bx (x7 a1 B c q)),.row z1 1 (bx (x7 a2 B c q))]⟩ True (z3 ?_) (fun _=>?_)
   ·refine q8 (q7 hT ?_)
    refine⟨by decide,v7 rfl ?_⟩
    refine q8 (q7 hT ?_)
    refine z3 ?_
    refine y8 (fun n s=>∃ (k:Nat) (j:Int),n+k=q∧j=k∧s=⟨⟨65,[(0,.p (.sl 1 (z4 [a0,a1,a2]))),(1,.msl 0 1 0 q),(6,.p (.box F)),(7,.msl 1 1 0 3),(37,.p (.sl 1 (z4 [a0,a1,a2]))),(38,i64 3),(8,i64 2),(39,i64 2),(44,bA a2),(45,i64 (bx a2).length),(46,i64 j)]⟩,[.row z0 1 (z4 B),.cells z0 [.msl 2 1 0 c,.msl 3 1 0 c,.msl 4 1 0 c],.row z1 1 (bx (x7 a0 B c q)),.row z1 1 (bx (x7 a1 B c q)),.row z1 1 (bx (x7 a2 B c k))]⟩) q ⟨⟨65,_⟩,_⟩ (q9 [0,1,2,3,4] [0,1,6,7,37,38,8,39,44,45,46] rfl) ⟨0,0,by omega,rfl,rfl⟩ ?_
    rintro n2 s ⟨k,j,hnk,hj,rfl⟩
    refine q8 (q7 hT ?_)
    refine q8 (z2 (y4 (fun h=>?_) (fun h=>?_)))
    ·have h:=of_decide_eq_true (show decide (j<(((bx a2).length:Nat):Int))=true from h)
     have hk:k<a2.length:=by omega
     have hkB:k<B.length:=by omega
     refine z5 ?_
     have hxa:=List.getElem?_eq_getElem hk
     have hxb:=List.getElem?_eq_getElem hkB
     have hst:=W0 c hxa hxb
     have hlb:=hBc _ (List.getElem_mem hkB)
     generalize a2[k]=x at hxa hst
     generalize B[k]=b at hxb hst hlb
     have hxp:(bx a2)[j.toNat]?=some [u8 x]:=by rw[hj,Int.toNat_natCast];exact u9 hxa
     have hbp:(z4 B)[0+j.toNat]?=some [bP b]:=by rw[hj,Int.toNat_natCast,Nat.zero_add];exact Q4 hxb
     have hml:=Q9 (B:=B) a2 hBc (k:=k) (by omega)
     have w:=wadd (x7 a2 B c k) b x hml hlb
     rw[hml,← hst]at w
     refine z8 ⟨⟨65,[(0,.p (.sl 1 (z4 [a0,a1,a2]))),(1,.msl 0 1 0 q),(6,.p (.box F)),(7,.msl 1 1 0 3),(37,.p (.sl 1 (z4 [a0,a1,a2]))),(38,i64 3),(8,i64 2),(39,i64 2),(44,bA a2),(45,i64 (bx a2).length),(46,i64 j)]⟩,[.row z0 1 (z4 B),.cells z0 [.msl 2 1 0 c,.msl 3 1 0 c,.msl 4 1 0 c],.row z1 1 (bx (x7 a0 B c q)),.row z1 1 (bx (x7 a1 B c q)),.row z1 1 (bx (x7 a2 B c (k+1)))]⟩ True (z3 (q8 (q7 hT ?_))) (fun _=>?_)
     ·refine⟨by omega,v7 hxp ?_⟩
      refine x6 [10] [] hT z6 (by rfl) ?_
      refine⟨by decide,?_⟩
      refine⟨⟨by omega,by omega⟩,?_⟩
      refine v7 hbp ?_
      refine⟨_,_,u6 [4] w rfl rfl rfl,?_⟩
      repeat first|refine⟨rfl,?_⟩|refine⟨⟨by decide,rfl⟩,?_⟩|refine⟨⟨⟨by omega,by omega⟩,rfl⟩,?_⟩|refine⟨v7 hbp rfl,?_⟩
      exact⟨q9 [0,1,2,3,4] [0,1,6,7,37,38,8,39,44,45,46] rfl,trivial⟩
     ·refine q7 hT ?_
      exact⟨n2 - 1,by omega,_,q9 [0,1,2,3,4] [0,1,6,7,37,38,8,39,44,45,46] rfl,k+1,IntKind.i64.wrap (j+1),by omega,by rw[y7 _ (by omega) (by omega)];omega,rfl⟩
    ·have h:=of_decide_eq_false (show decide (j<(((bx a2).length:Nat):Int))=false from h)
     rw[show k=q by omega]
     refine x9 ?_
     exact⟨q9 [0,1,2,3,4] [0,1,6,7,37,38,8,39] rfl,trivial⟩
   ·refine q7 hT ?_
    exact⟨0,by decide,_,q9 [0,1,2,3,4] [0,1,6,7,37,38,39] rfl,(.inr (.inr (.inr ⟨rfl,rfl⟩)))⟩
  ·refine q8 (q7 hT ?_)
   refine q8 (z2 ?_)
   refine x9 ?_
   exact⟨q9 [0,1,2,3,4] [7] rfl,trivial⟩
 refine Q1 (U8 2 1 0 c rfl rfl rfl (by rw[w9,hmk0])) ?_
 refine Q1 (U8 3 1 1 c rfl rfl rfl (by rw[w9,hmk1])) ?_
 refine Q1 (U8 4 1 2 c rfl rfl rfl (by rw[w9,hmk2])) ?_
 refine Q1 (q1d 1 [bP (x7 a0 B c q),bP (x7 a1 B c q),bP (x7 a2 B c q)] rfl rfl (show 3≤140737488355328 by decide)) ?_
 refine Q1 (V3 7 1 _ rfl rfl rfl rfl) ?_
 refine q8 (q7 hT ?_)
 refine y5 ?_
 exact z9 [0] ⟨rfl,rfl⟩ rfl
set_option maxHeartbeats 4000000 in
set_option maxRecDepth 20000 in
theorem w9w (a0 a1 a2 a3:z7)(B:List z7)(q c:Nat)(q1:1≤q)(q2:q≤64)(c1:1≤c)(c2:c≤4096)(hA:∀ s∈([a0,a1,a2,a3]:List z7),s.length=q)(hB:B.length=q)(hBc:∀ s∈B,s.length=c) :
 AFm Tryz.prog 1 J7 [.p (.sl 1 (z4 [a0,a1,a2,a3])),.msl 0 1 0 q] [.row z0 1 (z4 B)] (v9 (.tup [.p (.sl 1 (z4 [x7 a0 B c q,x7 a1 B c q,x7 a2 B c q,x7 a3 B c q])),i64 0]) [.row z0 1 (z4 B)]):=by
 have wA:=J0 [a0,a1,a2,a3] q (show 1≤4 by decide) (show 4≤64 by decide) q1 (by omega) hA
 have wB:=J0 B c (by omega) (by omega) c1 c2 hBc
 have wn:=q3a
 have hcl:=Q2 B
 have h0:=List.getElem?_eq_getElem (show 0<B.length by omega)
 have hc0:=hBc _ (List.getElem_mem (show 0<B.length by omega))
 generalize B[0]=b0 at h0 hc0
 have hx0:(z4 B)[0+(0:Int).toNat]?=some [bP b0]:=Q4 h0
 have hb0:=w9 b0
 have wf:=z1j q0k (bx b0).length (by omega) (fun _ _=>0) (fun i k _ _=>q3h i k)
 have ha0:a0.length=q:=hA a0 (by simp)
 have hx10:=w9 a0
 have ha1:a1.length=q:=hA a1 (by simp)
 have hx11:=w9 a1
 have ha2:a2.length=q:=hA a2 (by simp)
 have hx12:=w9 a2
 have ha3:a3.length=q:=hA a3 (by simp)
 have hx13:=w9 a3
 have hmk0:=Q9 (B:=B) a0 hBc (k:=q) (by omega)
 have hmk1:=Q9 (B:=B) a1 hBc (k:=q) (by omega)
 have hmk2:=Q9 (B:=B) a2 hBc (k:=q) (by omega)
 have hmk3:=Q9 (B:=B) a3 hBc (k:=q) (by omega)
 have wadd:=fun(to row:z7) (x:UInt8) (ht:to.length=c) (hr:row.length=c)=>q5e to row x (by omega) (by omega)
 unfold q2j at wn wadd
 generalize fP=F at wn wadd
 refine Q5 1 hT q3e rfl rfl q3f rfl rfl ?_
 refine q8 (q7 hT ?_)
 have lend:=q8x wB 0 (H:=[.row z0 1 (z4 B)]) (args:=[.msl 0 1 0 q]) (t:=z0) (sz:=1) (xs:=z4 B) rfl ⟨.inr (.inl ⟨congrArg (AV.msl 0 1 0) (show q=(z4 B).length by omega),rfl⟩),trivial⟩ rfl (fun k hk=>by simp at hk)
 refine z8 ⟨⟨65,[(0,.p (.sl 1 (z4 [a0,a1,a2,a3]))),(1,.msl 0 1 0 q)]⟩,[.row z0 1 (z4 B)]⟩ True (q8 (q7 hT ?_)) (fun _=>?_)
 ·refine y9 (w7 wA _ rfl rfl) ?_
  refine y9 lend ?_
  refine⟨by decide,v7 rfl ?_⟩
  refine z2 (y4 (fun h=>?_) (fun h=>?_))
  ·have h:((((bx a0).length:Nat):Int) != ((q:Nat):Int))=true:=h
   rw[bne_iff_ne]at h
   omega
  exact z5 ⟨q9 [0] [0,1] rfl,trivial⟩
 refine q8 (q7 hT ?_)
 refine y9 (w7 wn _ rfl rfl) ?_
 refine y6 (fun st=>∃ c',c'=c∧st=⟨⟨65,[(0,.p (.sl 1 (z4 [a0,a1,a2,a3]))),(1,.msl 0 1 0 q),(6,.p (.box F)),(7,.msl 1 1 0 4)]⟩,[.row z0 1 (z4 B),.cells z0 [.msl 2 1 0 c',.msl 3 1 0 c',.msl 4 1 0 c',.msl 5 1 0 c'],.row z1 1 (bx (u0 (fun _ _=>0) c' 0)),.row z1 1 (bx (u0 (fun _ _=>0) c' 1)),.row z1 1 (bx (u0 (fun _ _=>0) c' 2)),.row z1 1 (bx (u0 (fun _ _=>0) c' 3))]⟩) (q7 hT ?_) ?_
 ·refine⟨⟨by decide,by omega⟩,?_⟩
  refine v7 hx0 ?_
  refine y9 (q1z wf _ rfl) ?_
  exact⟨_,q9 [0,1,2,3,4,5] [0,1,6,7] rfl,_,hb0.trans hc0,rfl⟩
 rintro _ ⟨c,rfl,rfl⟩
 clear wf
 refine z8 ⟨⟨65,[(7,.msl 1 1 0 4)]⟩,[.row z0 1 (z4 B),.cells z0 [.msl 2 1 0 c,.msl 3 1 0 c,.msl 4 1 0 c,.msl 5 1 0 c],.row z1 1 (bx (x7 a0 B c q)),.row z1 1 (bx (x7 a1 B c q)),.row z1 1 (bx (x7 a2 B c q)),.row z1 1 (bx (x7 a3 B c q))]⟩ True (q8 (q7 hT ?_)) (fun _=>?_)
 ·refine z3 ?_
  refine y8 (fun n s=>(n=4∧s=⟨⟨65,[(0,.p (.sl 1 (z4 [a0,a1,a2,a3]))),(1,.msl 0 1 0 q),(6,.p (.box F)),(7,.msl 1 1 0 4),(37,.p (.sl 1 (z4 [a0,a1,a2,a3]))),(38,i64 4),(39,i64 0)]⟩,[.row z0 1 (z4 B),.cells z0 [.msl 2 1 0 c,.msl 3 1 0 c,.msl 4 1 0 c,.msl 5 1 0 c],.row z1 1 (bx (x7 a0 B c 0)),.row z1 1 (bx (x7 a1 B c 0)),.row z1 1 (bx (x7 a2 B c 0)),.row z1 1 (bx (x7 a3 B c 0))]⟩)∨(n=3∧s=⟨⟨65,[(0,.p (.sl 1 (z4 [a0,a1,a2,a3]))),(1,.msl 0 1 0 q),(6,.p (.box F)),(7,.msl 1 1 0 4),(37,.p (.sl 1 (z4 [a0,a1,a2,a3]))),(38,i64 4),(39,i64 1)]⟩,[.row z0 1 (z4 B),.cells z0 [.msl 2 1 0 c,.msl 3 1 0 c,.msl 4 1 0 c,.msl 5 1 0 c],.row z1 1 (bx (x7 a0 B c q)),.row z1 1 (bx (x7 a1 B c 0)),.row z1 1 (bx (x7 a2 B c 0)),.row z1 1 (bx (x7 a3 B c 0))]⟩)∨(n=2∧s=⟨⟨65,[(0,.p (.sl 1 (z4 [a0,a1,a2,a3]))),(1,.msl 0 1 0 q),(6,.p (.box F)),(7,.msl 1 1 0 4),(37,.p (.sl 1 (z4 [a0,a1,a2,a3]))),(38,i64 4),(39,i64 2)]⟩,[.row z0 1 (z4 B),.cells z0 [.msl 2 1 0 c,.msl 3 1 0 c,.msl 4 1 0 c,.msl 5 1 0 c],.row z1 1 (bx (x7 a0 B c q)),.row z1 1 (bx (x7 a1 B c q)),.row z1 1 (bx (x7 a2 B c 0)),.row z1 1 (bx (x7 a3 B c 0))]⟩)∨(n=1∧s=⟨⟨65,[(0,.p (.sl 1 (z4 [a0,a1,a2,a3]))),(1,.msl 0 1 0 q),(6,.p (.box F)),(7,.msl 1 1 0 4),(37,.p (.sl 1 (z4 [a0,a1,a2,a3]))),(38,i64 4),(39,i64 3)]⟩,[.row z0 1 (z4 B),.cells z0 [.msl 2 1 0 c,.msl 3 1 0 c,.msl 4 1 0 c,.msl 5 1 0 c],.row z1 1 (bx (x7 a0 B c q)),.row z1 1 (bx (x7 a1 B c q)),.row z1 1 (bx (x7 a2 B c q)),.row z1 1 (bx (x7 a3 B c 0))]⟩)∨(n=0∧s=⟨⟨65,[(0,.p (.sl 1 (z4 [a0,a1,a2,a3]))),(1,.msl 0 1 0 q),(6,.p (.box F)),(7,.msl 1 1 0 4),(37,.p (.sl 1 (z4 [a0,a1,a2,a3]))),(38,i64 4),(39,i64 4)]⟩,[.row z0 1 (z4 B),.cells z0 [.msl 2 1 0 c,.msl 3 1 0 c,.msl 4 1 0 c,.msl 5 1 0 c],.row z1 1 (bx (x7 a0 B c q)),.row z1 1 (bx (x7 a1 B c q)),.row z1 1 (bx (x7 a2 B c q)),.row z1 1 (bx (x7 a3 B c q))]⟩)) 4 ⟨⟨65,_⟩,_⟩ (q9 [0,1,2,3,4,5] [0,1,6,7,37,38,39] rfl) (.inl ⟨rfl,by rw[q3i a0 B c 0,q3i a1 B c 1,q3i a2 B c 2,q3i a3 B c 3];rfl⟩) ?_
  rintro n s (⟨rfl,rfl⟩|⟨rfl,rfl⟩|⟨rfl,rfl⟩|⟨rfl,rfl⟩|⟨rfl,rfl⟩)
  ·refine q8 (q7 hT ?_)
   refine q8 (z2 ?_)
   refine z5 ?_
   refine z8 ⟨⟨65,[(0,.p (.sl 1 (z4 [a0,a1,a2,a3]))),(1,.msl 0 1 0 q),(6,.p (.box F)),(7,.msl 1 1 0 4),(37,.p (.sl 1 (z4 [a0,a1,a2,a3]))),(38,i64 4),(8,i64 0),(39,i64 0)]⟩,[.row z0 1 (z4 B),.cells z0 [.msl 2 1 0 c,.msl 3 1 0 c,.msl 4 1 0 c,.msl 5 1 0 c],.row z1 1 (bx (x7 a0 B c q)),.row z1 1 (bx (x7 a1 B c 0)),.row z1 1 (bx (x7 a2 B c 0)),.row z1 1 (bx (x7 a3 B c 0))]⟩ True (z3 ?_) (fun _=>?_)
   ·refine q8 (q7 hT ?_)
    refine⟨by decide,v7 rfl ?_⟩
    refine q8 (q7 hT ?_)
    refine z3 ?_
    refine y8 (fun n s=>∃ (k:Nat) (j:Int),n+k=q∧j=k∧s=⟨⟨65,[(0,.p (.sl 1 (z4 [a0,a1,a2,a3]))),(1,.msl 0 1 0 q),(6,.p (.box F)),(7,.msl 1 1 0 4),(37,.p (.sl 1 (z4 [a0,a1,a2,a3]))),(38,i64 4),(8,i64 0),(39,i64 0),(44,bA a0),(45,i64 (bx a0).length),(46,i64 j)]⟩,[.row z0 1 (z4 B),.cells z0 [.msl 2 1 0 c,.msl 3 1 0 c,.msl 4 1 0 c,.msl 5 1 0 c],.row z1 1 (bx (x7 a0 B c k)),.row z1 1 (bx (x7 a1 B c 0)),.row z1 1 (bx (x7 a2 B c 0)),.row z1 1 (bx (x7 a3 B c 0))]⟩) q ⟨⟨65,_⟩,_⟩ (q9 [0,1,2,3,4,5] [0,1,6,7,37,38,8,39,44,45,46] rfl) ⟨0,0,by omega,rfl,rfl⟩ ?_
    rintro n2 s ⟨k,j,hnk,hj,rfl⟩
    refine q8 (q7 hT ?_)
    refine q8 (z2 (y4 (fun h=>?_) (fun h=>?_)))
    ·have h:=of_decide_eq_true (show decide (j<(((bx a0).length:Nat):Int))=true from h)
     have hk:k<a0.length:=by omega
     have hkB:k<B.length:=by omega
     refine z5 ?_
     have hxa:=List.getElem?_eq_getElem hk
     have hxb:=List.getElem?_eq_getElem hkB
     have hst:=W0 c hxa hxb
     have hlb:=hBc _ (List.getElem_mem hkB)
     generalize a0[k]=x at hxa hst
     generalize B[k]=b at hxb hst hlb
     have hxp:(bx a0)[j.toNat]?=some [u8 x]:=by rw[hj,Int.toNat_natCast];exact u9 hxa
     have hbp:(z4 B)[0+j.toNat]?=some [bP b]:=by rw[hj,Int.toNat_natCast,Nat.zero_add];exact Q4 hxb
     have hml:=Q9 (B:=B) a0 hBc (k:=k) (by omega)
     have w:=wadd (x7 a0 B c k) b x hml hlb
     rw[hml,← hst]at w
     refine z8 ⟨⟨65,[(0,.p (.sl 1 (z4 [a0,a1,a2,a3]))),(1,.msl 0 1 0 q),(6,.p (.box F)),(7,.msl 1 1 0 4),(37,.p (.sl 1 (z4 [a0,a1,a2,a3]))),(38,i64 4),(8,i64 0),(39,i64 0),(44,bA a0),(45,i64 (bx a0).length),(46,i64 j)]⟩,[.row z0 1 (z4 B),.cells z0 [.msl 2 1 0 c,.msl 3 1 0 c,.msl 4 1 0 c,.msl 5 1 0 c],.row z1 1 (bx (x7 a0 B c (k+1))),.row z1 1 (bx (x7 a1 B c 0)),.row z1 1 (bx (x7 a2 B c 0)),.row z1 1 (bx (x7 a3 B c 0))]⟩ True (z3 (q8 (q7 hT ?_))) (fun _=>?_)
     ·refine⟨by omega,v7 hxp ?_⟩
      refine x6 [10] [] hT z6 (by rfl) ?_
      refine⟨by decide,?_⟩
      refine⟨⟨by omega,by omega⟩,?_⟩
      refine v7 hbp ?_
      refine⟨_,_,u6 [2] w rfl rfl rfl,?_⟩
      repeat first|refine⟨rfl,?_⟩|refine⟨⟨by decide,rfl⟩,?_⟩|refine⟨⟨⟨by omega,by omega⟩,rfl⟩,?_⟩|refine⟨v7 hbp rfl,?_⟩
      exact⟨q9 [0,1,2,3,4,5] [0,1,6,7,37,38,8,39,44,45,46] rfl,trivial⟩
     ·refine q7 hT ?_
      exact⟨n2 - 1,by omega,_,q9 [0,1,2,3,4,5] [0,1,6,7,37,38,8,39,44,45,46] rfl,k+1,IntKind.i64.wrap (j+1),by omega,by rw[y7 _ (by omega) (by omega)];omega,rfl⟩
    ·have h:=of_decide_eq_false (show decide (j<(((bx a0).length:Nat):Int))=false from h)
     rw[show k=q by omega]
     refine x9 ?_
     exact⟨q9 [0,1,2,3,4,5] [0,1,6,7,37,38,8,39] rfl,trivial⟩
   ·refine q7 hT ?_
    exact⟨3,by decide,_,q9 [0,1,2,3,4,5] [0,1,6,7,37,38,39] rfl,(.inr (.inl ⟨rfl,rfl⟩))⟩
  ·refine q8 (q7 hT ?_)
   refine q8 (z2 ?_)
   refine z5 ?_
   refine z8 ⟨⟨65,[(0,.p (.sl 1 (z4 [a0,a1,a2,a3]))),(1,.msl 0 1 0 q),(6,.p (.box F)),(7,.msl 1 1 0 4),(37,.p (.sl 1 (z4 [a0,a1,a2,a3]))),(38,i64 4),(8,i64 1),(39,i64 1)]⟩,[.row z0 1 (z4 B),.cells z0 [.msl 2 1 0 c,.msl 3 1 0 c,.msl 4 1 0 c,.msl 5 1 0 c],.row z1 1 (bx (x7 a0 B c q)),.row z1 1 (bx (x7 a1 B c q)),.row z1 1 (bx (x7 a2 B c 0)),.row z1 1 (bx (x7 a3 B c 0))]⟩ True (z3 ?_) (fun _=>?_)
   ·refine q8 (q7 hT ?_)
    refine⟨by decide,v7 rfl ?_⟩
    refine q8 (q7 hT ?_)
    refine z3 ?_
    refine y8 (fun n s=>∃ (k:Nat) (j:Int),n+k=q∧j=k∧s=⟨⟨65,[(0,.p (.sl 1 (z4 [a0,a1,a2,a3]))),(1,.msl 0 1 0 q),(6,.p (.box F)),(7,.msl 1 1 0 4),(37,.p (.sl 1 (z4 [a0,a1,a2,a3]))),(38,i64 4),(8,i64 1),(39,i64 1),(44,bA a1),(45,i64 (bx a1).length),(46,i64 j)]⟩,[.row z0 1 (z4 B),.cells z0 [.msl 2 1 0 c,.msl 3 1 0 c,.msl 4 1 0 c,.msl 5 1 0 c],.row z1 1 (bx (x7 a0 B c q)),.row z1 1 (bx (x7 a1 B c k)),.row z1 1 (bx (x7 a2 B c 0)),.row z1 1 (bx (x7 a3 B c 0))]⟩) q ⟨⟨65,_⟩,_⟩ (q9 [0,1,2,3,4,5] [0,1,6,7,37,38,8,39,44,45,46] rfl) ⟨0,0,by omega,rfl,rfl⟩ ?_
    rintro n2 s ⟨k,j,hnk,hj,rfl⟩
    refine q8 (q7 hT ?_)
    refine q8 (z2 (y4 (fun h=>?_) (fun h=>?_)))
    ·have h:=of_decide_eq_true (show decide (j<(((bx a1).length:Nat):Int))=true from h)
     have hk:k<a1.length:=by omega
     have hkB:k<B.length:=by omega
     refine z5 ?_
     have hxa:=List.getElem?_eq_getElem hk
     have hxb:=List.getElem?_eq_getElem hkB
     have hst:=W0 c hxa hxb
     have hlb:=hBc _ (List.getElem_mem hkB)
     generalize a1[k]=x at hxa hst
     generalize B[k]=b at hxb hst hlb
     have hxp:(bx a1)[j.toNat]?=some [u8 x]:=by rw[hj,Int.toNat_natCast];exact u9 hxa
     have hbp:(z4 B)[0+j.toNat]?=some [bP b]:=by rw[hj,Int.toNat_natCast,Nat.zero_add];exact Q4 hxb
     have hml:=Q9 (B:=B) a1 hBc (k:=k) (by omega)
     have w:=wadd (x7 a1 B c k) b x hml hlb
     rw[hml,← hst]at w
     refine z8 ⟨⟨65,[(0,.p (.sl 1 (z4 [a0,a1,a2,a3]))),(1,.msl 0 1 0 q),(6,.p (.box F)),(7,.msl 1 1 0 4),(37,.p (.sl 1 (z4 [a0,a1,a2,a3]))),(38,i64 4),(8,i64 1),(39,i64 1),(44,bA a1),(45,i64 (bx a1).length),(46,i64 j)]⟩,[.row z0 1 (z4 B),.cells z0 [.msl 2 1 0 c,.msl 3 1 0 c,.msl 4 1 0 c,.msl 5 1 0 c],.row z1 1 (bx (x7 a0 B c q)),.row z1 1 (bx (x7 a1 B c (k+1))),.row z1 1 (bx (x7 a2 B c 0)),.row z1 1 (bx (x7 a3 B c 0))]⟩ True (z3 (q8 (q7 hT ?_))) (fun _=>?_)
     ·refine⟨by omega,v7 hxp ?_⟩
      refine x6 [10] [] hT z6 (by rfl) ?_
      refine⟨by decide,?_⟩
      refine⟨⟨by omega,by omega⟩,?_⟩
      refine v7 hbp ?_
      refine⟨_,_,u6 [3] w rfl rfl rfl,?_⟩
      repeat first|refine⟨rfl,?_⟩|refine⟨⟨by decide,rfl⟩,?_⟩|refine⟨⟨⟨by omega,by omega⟩,rfl⟩,?_⟩|refine⟨v7 hbp rfl,?_⟩
      exact⟨q9 [0,1,2,3,4,5] [0,1,6,7,37,38,8,39,44,45,46] rfl,trivial⟩
     ·refine q7 hT ?_
      exact⟨n2 - 1,by omega,_,q9 [0,1,2,3,4,5] [0,1,6,7,37,38,8,39,44,45,46] rfl,k+1,IntKind.i64.wrap (j+1),by omega,by rw[y7 _ (by omega) (by omega)];omega,rfl⟩
    ·have h:=of_decide_eq_false (show decide (j<(((bx a1).length:Nat):Int))=false from h)
     rw[show k=q by omega]
     refine x9 ?_
     exact⟨q9 [0,1,2,3,4,5] [0,1,6,7,37,38,8,39] rfl,trivial⟩
   ·refine q7 hT ?_
    exact⟨2,by decide,_,q9 [0,1,2,3,4,5] [0,1,6,7,37,38,39] rfl,(.inr (.inr (.inl ⟨rfl,rfl⟩)))⟩
  ·refine q8 (q7 hT ?_)
   refine q8 (z2 ?_)
   refine z5 ?_
   refine z8 ⟨⟨65,[(0,.p (.sl 1 (z4 [a0,a1,a2,a3]))),(1,.msl 0 1 0 q),(6,.p (.box F)),(7,.msl 1 1 0 4),(37,.p (.sl 1 (z4 [a0,a1,a2,a3]))),(38,i64 4),(8,i64 2),(39,i64 2)]⟩,[.row z0 1 (z4 B),.cells z0 [.msl 2 1 0 c,.msl 3 1 0 c,.msl 4 1 0 c,.msl 5 1 0 c],.row z1 1 (bx (x7 a0 B c q)),.row z1 1 (bx (x7 a1 B c q)),.row z1 1 (bx (x7 a2 B c q)),.row z1 1 (bx (x7 a3 B c 0))]⟩ True (z3 ?_) (fun _=>?_)
   ·refine q8 (q7 hT ?_)
    refine⟨by decide,v7 rfl ?_⟩
    refine q8 (q7 hT ?_)
    refine z3 ?_
    refine y8 (fun n s=>∃ (k:Nat) (j:Int),n+k=q∧j=k∧s=⟨⟨65,[(0,.p (.sl 1 (z4 [a0,a1,a2,a3]))),(1,.msl 0 1 0 q),(6,.p (.box F)),(7,.msl 1 1 0 4),(37,.p (.sl 1 (z4 [a0,a1,a2,a3]))),(38,i64 4),(8,i64 2),(39,i64 2),(44,bA a2),(45,i64 (bx a2).length),(46,i64 j)]⟩,[.row z0 1 (z4 B),.cells z0 [.msl 2 1 0 c,.msl 3 1 0 c,.msl 4 1 0 c,.msl 5 1 0 c],.row z1 1 (bx (x7 a0 B c q)),.row z1 1 (bx (x7 a1 B c q)),.row z1 1 (bx (x7 a2 B c k)),.row z1 1 (bx (x7 a3 B c 0))]⟩) q ⟨⟨65,_⟩,_⟩ (q9 [0,1,2,3,4,5] [0,1,6,7,37,38,8,39,44,45,46] rfl) ⟨0,0,by omega,rfl,rfl⟩ ?_
    rintro n2 s ⟨k,j,hnk,hj,rfl⟩
    refine q8 (q7 hT ?_)
    refine q8 (z2 (y4 (fun h=>?_) (fun h=>?_)))
    ·have h:=of_decide_eq_true (show decide (j<(((bx a2).length:Nat):Int))=true from h)
     have hk:k<a2.length:=by omega
     have hkB:k<B.length:=by omega
     refine z5 ?_
     have hxa:=List.getElem?_eq_getElem hk
     have hxb:=List.getElem?_eq_getElem hkB
     have hst:=W0 c hxa hxb
     have hlb:=hBc _ (List.getElem_mem hkB)
     generalize a2[k]=x at hxa hst
     generalize B[k]=b at hxb hst hlb
     have hxp:(bx a2)[j.toNat]?=some [u8 x]:=by rw[hj,Int.toNat_natCast];exact u9 hxa
     have hbp:(z4 B)[0+j.toNat]?=some [bP b]:=by rw[hj,Int.toNat_natCast,Nat.zero_add];exact Q4 hxb
     have hml:=Q9 (B:=B) a2 hBc (k:=k) (by omega)
     have w:=wadd (x7 a2 B c k) b x hml hlb
     rw[hml,← hst]at w
     refine z8 ⟨⟨65,[(0,.p (.sl 1 (z4 [a0,a1,a2,a3]))),(1,.msl 0 1 0 q),(6,.p (.box F)),(7,.msl 1 1 0 4),(37,.p (.sl 1 (z4 [a0,a1,a2,a3]))),(38,i64 4),(8,i64 2),(39,i64 2),(44,bA a2),(45,i64 (bx a2).length),(46,i64 j)]⟩,[.row z0 1 (z4 B),.cells z0 [.msl 2 1 0 c,.msl 3 1 0 c,.msl 4 1 0 c,.msl 5 1 0 c],.row z1 1 (bx (x7 a0 B c q)),.row z1 1 (bx (x7 a1 B c q)),.row z1 1 (bx (x7 a2 B c (k+1))),.row z1 1 (bx (x7 a3 B c 0))]⟩ True (z3 (q8 (q7 hT ?_))) (fun _=>?_)
     ·refine⟨by omega,v7 hxp ?_⟩
      refine x6 [10] [] hT z6 (by rfl) ?_
      refine⟨by decide,?_⟩
      refine⟨⟨by omega,by omega⟩,?_⟩
      refine v7 hbp ?_
      refine⟨_,_,u6 [4] w rfl rfl rfl,?_⟩
      repeat first|refine⟨rfl,?_⟩|refine⟨⟨by decide,rfl⟩,?_⟩|refine⟨⟨⟨by omega,by omega⟩,rfl⟩,?_⟩|refine⟨v7 hbp rfl,?_⟩
      exact⟨q9 [0,1,2,3,4,5] [0,1,6,7,37,38,8,39,44,45,46] rfl,trivial⟩
     ·refine q7 hT ?_
      exact⟨n2 - 1,by omega,_,q9 [0,1,2,3,4,5] [0,1,6,7,37,38,8,39,44,45,46] rfl,k+1,IntKind.i64.wrap (j+1),by omega,by rw[y7 _ (by omega) (by omega)];omega,rfl⟩
    ·have h:=of_decide_eq_false (show decide (j<(((bx a2).length:Nat):Int))=false from h)
     rw[show k=q by omega]
     refine x9 ?_
     exact⟨q9 [0,1,2,3,4,5] [0,1,6,7,37,38,8,39] rfl,trivial⟩
   ·refine q7 hT ?_
    exact⟨1,by decide,_,q9 [0,1,2,3,4,5] [0,1,6,7,37,38,39] rfl,(.inr (.inr (.inr (.inl ⟨rfl,rfl⟩))))⟩
  ·refine q8 (q7 hT ?_)
   refine q8 (z2 ?_)
   refine z5 ?_
   refine z8 ⟨⟨65,[(0,.p (.sl 1 (z4 [a0,a1,a2,a3]))),(1,.msl 0 1 0 q),(6,.p (.box F)),(7,.msl 1 1 0 4),(37,.p (.sl 1 (z4 [a0,a1,a2,a3]))),(38,i64 4),(8,i64 3),(39,i64 3)]⟩,[.row z0 1 (z4 B),.cells z0 [.msl 2 1 0 c,.msl 3 1 0 c,.msl 4 1 0 c,.msl 5 1 0 c],.row z1 1 (bx (x7 a0 B c q)),.row z1 1 (bx (x7 a1 B c q)),.row z1 1 (bx (x7 a2 B c q)),.row z1 1 (bx (x7 a3 B c q))]⟩ True (z3 ?_) (fun _=>?_)
   ·refine q8 (q7 hT ?_)
    refine⟨by decide,v7 rfl ?_⟩
    refine q8 (q7 hT ?_)
    refine z3 ?_
    refine y8 (fun n s=>∃ (k:Nat) (j:Int),n+k=q∧j=k∧s=⟨⟨65,[(0,.p (.sl 1 (z4 [a0,a1,a2,a3]))),(1,.msl 0 1 0 q),(6,.p (.box F)),(7,.msl 1 1 0 4),(37,.p (.sl 1 (z4 [a0,a1,a2,a3]))),(38,i64 4),(8,i64 3),(39,i64 3),(44,bA a3),(45,i64 (bx a3).length),(46,i64 j)]⟩,[.row z0 1 (z4 B),.cells z0 [.msl 2 1 0 c,.msl 3 1 0 c,.msl 4 1 0 c,.msl 5 1 0 c],.row z1 1 (bx (x7 a0 B c q)),.row z1 1 (bx (x7 a1 B c q)),.row z1 1 (bx (x7 a2 B c q)),.row z1 1 (bx (x7 a3 B c k))]⟩) q ⟨⟨65,_⟩,_⟩ (q9 [0,1,2,3,4,5] [0,1,6,7,37,38,8,39,44,45,46] rfl) ⟨0,0,by omega,rfl,rfl⟩ ?_
    rintro n2 s ⟨k,j,hnk,hj,rfl⟩
    refine q8 (q7 hT ?_)
    refine q8 (z2 (y4 (fun h=>?_) (fun h=>?_)))
    ·have h:=of_decide_eq_true (show decide (j<(((bx a3).length:Nat):Int))=true from h)
     have hk:k<a3.length:=by omega
     have hkB:k<B.length:=by omega
     refine z5 ?_
     have hxa:=List.getElem?_eq_getElem hk
     have hxb:=List.getElem?_eq_getElem hkB
     have hst:=W0 c hxa hxb
     have hlb:=hBc _ (List.getElem_mem hkB)
     generalize a3[k]=x at hxa hst
     generalize B[k]=b at hxb hst hlb
     have hxp:(bx a3)[j.toNat]?=some [u8 x]:=by rw[hj,Int.toNat_natCast];exact u9 hxa
     have hbp:(z4 B)[0+j.toNat]?=some [bP b]:=by rw[hj,Int.toNat_natCast,Nat.zero_add];exact Q4 hxb
     have hml:=Q9 (B:=B) a3 hBc (k:=k) (by omega)
     have w:=wadd (x7 a3 B c k) b x hml hlb
     rw[hml,← hst]at w
     refine z8 ⟨⟨65,[(0,.p (.sl 1 (z4 [a0,a1,a2,a3]))),(1,.msl 0 1 0 q),(6,.p (.box F)),(7,.msl 1 1 0 4),(37,.p (.sl 1 (z4 [a0,a1,a2,a3]))),(38,i64 4),(8,i64 3),(39,i64 3),(44,bA a3),(45,i64 (bx a3).length),(46,i64 j)]⟩,[.row z0 1 (z4 B),.cells z0 [.msl 2 1 0 c,.msl 3 1 0 c,.msl 4 1 0 c,.msl 5 1 0 c],.row z1 1 (bx (x7 a0 B c q)),.row z1 1 (bx (x7 a1 B c q)),.row z1 1 (bx (x7 a2 B c q)),.row z1 1 (bx (x7 a3 B c (k+1)))]⟩ True (z3 (q8 (q7 hT ?_))) (fun _=>?_)
     ·refine⟨by omega,v7 hxp ?_⟩
      refine x6 [10] [] hT z6 (by rfl) ?_
      refine⟨by decide,?_⟩
      refine⟨⟨by omega,by omega⟩,?_⟩
      refine v7 hbp ?_
      refine⟨_,_,u6 [5] w rfl rfl rfl,?_⟩
      repeat first|refine⟨rfl,?_⟩|refine⟨⟨by decide,rfl⟩,?_⟩|refine⟨⟨⟨by omega,by omega⟩,rfl⟩,?_⟩|refine⟨v7 hbp rfl,?_⟩
      exact⟨q9 [0,1,2,3,4,5] [0,1,6,7,37,38,8,39,44,45,46] rfl,trivial⟩
     ·refine q7 hT ?_
      exact⟨n2 - 1,by omega,_,q9 [0,1,2,3,4,5] [0,1,6,7,37,38,8,39,44,45,46] rfl,k+1,IntKind.i64.wrap (j+1),by omega,by rw[y7 _ (by omega) (by omega)];omega,rfl⟩
    ·have h:=of_decide_eq_false (show decide (j<(((bx a3).length:Nat):Int))=false from h)
     rw[show k=q by omega]
     refine x9 ?_
     exact⟨q9 [0,1,2,3,4,5] [0,1,6,7,37,38,8,39] rfl,trivial⟩
   ·refine q7 hT ?_
    exact⟨0,by decide,_,q9 [0,1,2,3,4,5] [0,1,6,7,37,38,39] rfl,(.inr (.inr (.inr (.inr ⟨rfl,rfl⟩))))⟩
  ·refine q8 (q7 hT ?_)
   refine q8 (z2 ?_)
   refine x9 ?_
   exact⟨q9 [0,1,2,3,4,5] [7] rfl,trivial⟩
 refine Q1 (U8 2 1 0 c rfl rfl rfl (by rw[w9,hmk0])) ?_
 refine Q1 (U8 3 1 1 c rfl rfl rfl (by rw[w9,hmk1])) ?_
 refine Q1 (U8 4 1 2 c rfl rfl rfl (by rw[w9,hmk2])) ?_
 refine Q1 (U8 5 1 3 c rfl rfl rfl (by rw[w9,hmk3])) ?_
 refine Q1 (q1d 1 [bP (x7 a0 B c q),bP (x7 a1 B c q),bP (x7 a2 B c q),bP (x7 a3 B c q)] rfl rfl (show 4≤140737488355328 by decide)) ?_
 refine Q1 (V3 7 1 _ rfl rfl rfl rfl) ?_
 refine q8 (q7 hT ?_)
 refine y5 ?_
 exact z9 [0] ⟨rfl,rfl⟩ rfl
end Go.Proofs.YtinfbclgkghgaaaGreat.AL
/- The layer 2 (mat): of matrices of up to four rows. -/
namespace Go.Proofs.YtinfbclgkghgaaaGreat.AL
open Go Go.Proofs
theorem v5p (k:Nat)(h1:1≤k)(h4:k≤4):AF Tryz.prog q2b [i64 k] [] (v9 (.tup [.msl 0 1 0 k,i64 0]) [.row z0 1 (z4 ((List.range k).map (u0 idA k)))]):=by
 have:k=1∨k=2∨k=3∨k=4:=by omega
 rcases this with rfl|rfl|rfl|rfl
 ·exact w9f
 ·exact w9g
 ·exact w9h
 ·exact w9i
theorem w0d (m c:Nat)(h1:1≤m)(h3:m≤3)(c1:1≤c)(c2:c≤64):AF Tryz.prog q3x [i64 m,i64 c] [] (v9 (.tup [.p (.sl 1 (z4 ((List.range m).map (u0 (q3n c) c)))),i64 0]) []):=by
 have:m=1∨m=2∨m=3:=by omega
 rcases this with rfl|rfl|rfl
 ·exact w0a c c1 c2
 ·exact w0b c c1 c2
 ·exact w0c c c1 c2
theorem w9x (A B:List z7)(q c:Nat)(h1:1≤A.length)(h4:A.length≤4)(q1:1≤q)(q2:q≤64)(c1:1≤c)(c2:c≤4096)(hA:∀ s∈A,s.length=q)(hB:B.length=q)(hBc:∀ s∈B,s.length=c) :
 AF Tryz.prog J7 [.p (.sl 1 (z4 A)),.p (.sl 1 (z4 B))] [] (v9 (.tup [.msl 0 1 0 A.length,i64 0]) [.row z0 1 (z4 (A.map fun a=>x7 a B c q))]):=by
 match A,h1,h4 with
 |[a0],_,_=>exact w9k a0 B q c q1 q2 c1 c2 hA hB hBc
 |[a0,a1],_,_=>exact w9n a0 a1 B q c q1 q2 c1 c2 hA hB hBc
 |[a0,a1,a2],_,_=>exact w9q a0 a1 a2 B q c q1 q2 c1 c2 hA hB hBc
 |[a0,a1,a2,a3],_,_=>exact w9s a0 a1 a2 a3 B q c q1 q2 c1 c2 hA hB hBc
 |[],h,_=>exact absurd h (by decide)
 |_ :: _ :: _ :: _ :: _ :: _,_,h=>simp at h
theorem w9y (A B:List z7)(q c:Nat)(h1:1≤A.length)(h4:A.length≤4)(q1:1≤q)(q2:q≤64)(c1:1≤c)(c2:c≤4096)(hA:∀ s∈A,s.length=q)(hB:B.length=q)(hBc:∀ s∈B,s.length=c) :
 AFm Tryz.prog 1 J7 [.p (.sl 1 (z4 A)),.msl 0 1 0 q] [.row z0 1 (z4 B)] (v9 (.tup [.p (.sl 1 (z4 (A.map fun a=>x7 a B c q))),i64 0]) [.row z0 1 (z4 B)]):=by
 match A,h1,h4 with
 |[a0],_,_=>exact w9t a0 B q c q1 q2 c1 c2 hA hB hBc
 |[a0,a1],_,_=>exact w9u a0 a1 B q c q1 q2 c1 c2 hA hB hBc
 |[a0,a1,a2],_,_=>exact w9v a0 a1 a2 B q c q1 q2 c1 c2 hA hB hBc
 |[a0,a1,a2,a3],_,_=>exact w9w a0 a1 a2 a3 B q c q1 q2 c1 c2 hA hB hBc
 |[],h,_=>exact absurd h (by decide)
 |_ :: _ :: _ :: _ :: _ :: _,_,h=>simp at h
def z9h (L:List z7):List z7:=(List.range L.length).map (gs L.length L L.length).2
theorem q8h {r:Nat}{L:List z7}(h:L.length=r):z9h L=(List.range r).map (gs r L r).2:=by subst h;rfl
theorem Q1u (f:Nat→z7):(List.range 1).map f=[f 0]:=rfl
theorem Q1v (f:Nat→z7):(List.range 2).map f=[f 0,f 1]:=rfl
theorem Q1w (f:Nat→z7):(List.range 3).map f=[f 0,f 1,f 2]:=rfl
theorem Q1x (f:Nat→z7):(List.range 4).map f=[f 0,f 1,f 2,f 3]:=rfl
theorem v5q (L:List z7)(h1:1≤L.length)(h4:L.length≤4)(hL:∀ s∈L,s.length=L.length)(hok:z9f L.length L=true) :
 AF Tryz.prog q8c [.p (.sl 1 (z4 L))] [] (v9 (.tup [.p (.sl 1 (z4 (z9h L))),i64 0]) []):=by
 match L,h1,h4 with
 |[a0],_,_=>
  rw[q8h (r:=1) rfl,Q1u]
  exact v5j a0 hL hok
 |[a0,a1],_,_=>
  rw[q8h (r:=2) rfl,Q1v]
  exact v5k a0 a1 hL hok
 |[a0,a1,a2],_,_=>
  rw[q8h (r:=3) rfl,Q1w]
  exact v5m a0 a1 a2 hL hok
 |[a0,a1,a2,a3],_,_=>
  rw[q8h (r:=4) rfl,Q1x]
  exact v5n a0 a1 a2 a3 hL hok
 |[],h,_=>exact absurd h (by decide)
 |_ :: _ :: _ :: _ :: _ :: _,_,h=>simp at h
end Go.Proofs.YtinfbclgkghgaaaGreat.AL
namespace Go.Proofs.YtinfbclgkghgaaaGreat.AL
open Go Go.Proofs
def q6e (k m:Nat):List z7:=(List.range m).map (u0 (q3n k) k)
def W9 (k m:Nat):List z7:=(List.range k).map (u0 idA k)++q6e k m
theorem q2s (k m:Nat):(q6e k m).length=m:=by unfold q6e;rw[List.length_map,List.length_range]
theorem z2x (k m:Nat):(W9 k m).length=k+m:=by unfold W9;rw[List.length_append,List.length_map,List.length_range,q2s]
theorem q8i (A:Nat→Nat→UInt8)(c i:Nat):(u0 A c i).length=c:=by unfold u0;rw[List.length_map,List.length_range]
theorem y5t {k m:Nat}:∀ s∈q6e k m,s.length=k:=fun s hs=>by
 unfold q6e at hs
 rw[List.mem_map]at hs
 obtain⟨i,_,rfl⟩:=hs
 exact q8i _ _ _
theorem x0f {k m:Nat}:∀ s∈W9 k m,s.length=k:=fun s hs=>by
 unfold W9 at hs
 rw[List.mem_append]at hs
 rcases hs with hs|hs
 ·rw[List.mem_map]at hs
  obtain⟨i,_,rfl⟩:=hs
  exact q8i _ _ _
 ·exact y5t s hs
theorem J4 (l r:List z7):z4 (l++r)=z4 l++z4 r:=by simp[z4]
theorem x0g (l:List z7)(n:Nat):(z4 l).drop n=z4 (l.drop n):=by simp[z4,List.map_drop]
theorem w9z (l:List z7)(n:Nat):(z4 l).take n=z4 (l.take n):=by simp[z4,List.map_take]
set_option maxHeartbeats 1000000 in
set_option maxRecDepth 20000 in
theorem w6n (k m:Nat)(k1:1≤k)(k4:k≤4)(m1:1≤m)(m3:m≤3):AF Tryz.prog w8a [i64 k,i64 m] [] (v9 (.tup [.p (.sl 1 (z4 (W9 k m))),i64 0]) []):=by
 refine AF.mono (R:=fun r H'=>∃ z,z=z4 (W9 k m)∧r=.tup [.p (.sl 1 z),i64 0]∧H'=[]) ?_ (by rintro r H' ⟨z,rfl,rfl,rfl⟩;exact⟨rfl,rfl⟩)
 have wo:=v5p k k1 k4
 have wc:=w0d m k m1 m3 k1 (by omega)
 have hz:z4 ((List.range k).map (u0 idA k))++z4 (q6e k m)=z4 (W9 k m):=by unfold W9;rw[J4]
 have hol:((List.range k).map (u0 idA k)).length=k:=by rw[List.length_map,List.length_range]
 have hcl:=q2s k m
 have wc:AF Tryz.prog q3x [i64 m,i64 k] [] (v9 (.tup [.p (.sl 1 (z4 (q6e k m))),i64 0]) []):=wc
 generalize z4 (W9 k m)=Z at hz
 generalize (List.range k).map (u0 idA k)=O at wo hz hol
 generalize q6e k m=C at wc hz hcl
 have hocl:=Q2 O
 have hccl:=Q2 C
 refine v8 hT w8b rfl rfl w8c rfl ?_
 refine q8 (q7 hT ?_)
 refine z8 ⟨⟨43,[(0,i64 k),(1,i64 m)]⟩,[]⟩ True (q8 (q7 hT ?_)) (fun _=>?_)
 ·refine y4 (fun h=>?_) (fun h=>?_)
  ·have h:=of_decide_eq_true (show decide ((k:Int)<1)=true from h)
   omega
  refine y4 (fun h=>?_) (fun h=>?_)
  ·have h:=of_decide_eq_true (show decide ((k:Int) > 64)=true from h)
   omega
  refine z2 (y4 (fun h=>?_) (fun h=>?_))
  ·have h:=of_decide_eq_true (show decide ((m:Int) > IntKind.i64.wrap (64 - (k:Int)))=true from h)
   rw[y7 _ (by omega) (by omega)]at h
   omega
  exact z5 ⟨q9 [] [0,1] rfl,trivial⟩
 refine z8 ⟨⟨43,[(0,i64 k),(1,i64 m),(6,.msl 0 1 0 k)]⟩,[.row z0 1 (z4 O)]⟩ True (q7 hT ?_) (fun _=>?_)
 ·refine y9 wo ?_
  exact⟨q9 [0] [0,1,6] rfl,trivial⟩
 refine q8 (q8 (q7 hT ?_))
 refine z2 (y4 (fun h=>?_) (fun h=>?_))
 ·have h:((m:Int)==0)=true:=h
  rw[beq_iff_eq]at h
  omega
 refine z5 ?_
 refine q8 (q7 hT ?_)
 refine y9 (w7 wc _ rfl rfl) ?_
 refine q8 (q7 hT ?_)
 refine⟨by omega,⟨by show (((z4 O).length:Nat)+(z4 C).length)*24≤_;omega,by omega⟩,?_⟩
 refine Q1 (V3 4 1 _ rfl rfl rfl rfl) ?_
 refine y5 ?_
 exact z9 [] ⟨_,hz,rfl,rfl⟩ rfl
def q4b (data:List z7)(m c:Nat):List z7:=(q6e data.length m).map fun a=>x7 a data c data.length
set_option maxHeartbeats 1000000 in
set_option maxRecDepth 20000 in
theorem y5u (data:List z7)(m c:Nat)(k1:1≤data.length)(k4:data.length≤4)(m1:1≤m)(m3:m≤3)(c1:1≤c)(c2:c≤4096)(hc:∀ s∈data,s.length=c) :
 AFm Tryz.prog 1 x6q [.msl 0 1 0 data.length,i64 m] [.row z0 1 (z4 data)] (v9 (.tup [.p (.sl 1 (z4 (q4b data m c))),i64 0]) [.row z0 1 (z4 data)]):=by
 obtain⟨k,hk⟩:∃ k,k=data.length:=⟨_,rfl⟩
 have wr:=w6n k m (by omega) (by omega) m1 m3
 have wm:=J0 data c k1 (by omega) c1 c2 hc
 have hdl:=Q2 data
 have lend:=q8x wm 0 (H:=[.row z0 1 (z4 data)]) (args:=[.msl 0 1 0 k]) (t:=z0) (sz:=1) (xs:=z4 data) rfl ⟨.inr (.inl ⟨congrArg (AV.msl 0 1 0) (show k=(z4 data).length by omega),rfl⟩),trivial⟩ rfl (fun k hk=>by simp at hk)
 have wx:=w9y (q6e k m) data k c (by rw[q2s];exact m1) (by rw[q2s];omega) (by omega) (by omega) c1 c2 y5t hk.symm hc
 have hE:q4b data m c=(q6e k m).map fun a=>x7 a data c k:=by unfold q4b;rw[← hk]
 rw[← hE]at wx
 rw[← hk]
 have hrl:=z2x k m
 have hrc:=Q2 (W9 k m)
 have hsl:((z4 (W9 k m)).take (((z4 (W9 k m)).length:Nat):Int).toNat).drop ((k:Nat):Int).toNat=z4 (q6e k m):=by
  simp only[Int.toNat_natCast]
  rw[List.take_length,x0g]
  unfold W9
  rw[List.drop_left' (by rw[List.length_map,List.length_range])]
 rw[← hsl]at wx
 generalize q4b data m c=E at wx ⊢
 generalize z4 (W9 k m)=R at wr wx hrc
 refine Q5 1 hT x6r rfl rfl x6s rfl rfl ?_
 refine q8 (q7 hT ?_)
 refine z8 ⟨⟨34,[(0,.msl 0 1 0 k),(1,i64 m),(6,.p (.sl 1 R)),(7,i64 0)]⟩,[.row z0 1 (z4 data)]⟩ True (q7 hT ?_) (fun _=>?_)
 ·refine y9 (w7 wr _ rfl rfl) ?_
  exact⟨q9 [0] [0,1,6,7] rfl,trivial⟩
 refine z8 ⟨⟨34,[(0,.msl 0 1 0 k),(1,i64 m),(6,.p (.sl 1 R))]⟩,[.row z0 1 (z4 data)]⟩ True (z3 (q8 (q7 hT ?_))) (fun _=>?_)
 ·refine y9 lend ?_
  refine z2 ?_
  refine q8 (q7 hT ?_)
  refine z2 (y4 (fun h=>?_) (fun h=>?_))
  ·have h:((m:Int)==0)=true:=h
   rw[beq_iff_eq]at h
   omega
  exact z5 ⟨q9 [0] [0,1,6] rfl,trivial⟩
 refine q8 (q7 hT ?_)
 refine⟨⟨by omega,by omega,Int.le_refl _⟩,?_⟩
 refine y9 (u6 [0] wx rfl rfl rfl) ?_
 refine y5 ?_
 exact z9 [0] ⟨rfl,rfl⟩ rfl
end Go.Proofs.YtinfbclgkghgaaaGreat.AL
namespace Go.Proofs.YtinfbclgkghgaaaGreat.AL
open Go Go.Proofs
abbrev Pc.four (p:Pc):List Int:=[p.frm,p.chain,p.index,p.of_]
end Go.Proofs.YtinfbclgkghgaaaGreat.AL
namespace Go.Proofs.YtinfbclgkghgaaaGreat.AL
open Go Go.Proofs Go.Proofs.YtinfbclgkghgaaaGreat.AL.Crc
def Pc.zero:Pc:=⟨0,0,0,0,0,0,[]⟩
theorem v0a {g:GeoV}(hg:g.may=true){m:Int}(m0:0≤m)(m2:m<2){q:Int}(q0:0≤q):4≤q3g g m (q.tmod g.w)∧q3g g m (q.tmod g.w)<4+2*g.w∧Y1 (q3g g m (q.tmod g.w))=true:=by
 obtain⟨g1,g2,_⟩:=g.of_may hg
 have h1:=Int.tmod_nonneg (a:=q) g.w (by omega)
 have h2:=Int.tmod_lt_of_pos q (show 0<g.w by omega)
 unfold q3g Y1
 have:m=0∨m=1:=by omega
 rcases this with rfl|rfl
 ·refine⟨by omega,by omega,?_⟩
  simp only[Bool.and_eq_true,decide_eq_true_eq];omega
 ·refine⟨by omega,by omega,?_⟩
  simp only[Bool.and_eq_true,decide_eq_true_eq];omega
theorem y5v {p:Pc}{vol:Int}{g:GeoV}{m:Int}(hp:p.may=true)(hg:g.may=true)(hv:Y1 vol=true)(m0:0≤m)(m2:m<2) :
 p.sector vol g m=(J9 (p.blk vol g m).all,0)∧U3 (J9 (p.blk vol g m).all)=(p.blk vol g m,0):=by
 have hl:=w6j hp
 obtain⟨h1,h2,_⟩:=p.of_may hp
 have hn:(p.blk vol g m).nums=true:=by
  unfold Blk.nums Pc.blk
  have ha:=(v0a hg m0 m2 (q:=p.seq) h1.1).2.2
  simp only[List.all_cons,List.all_nil,Bool.and_eq_true,decide_eq_true_eq]
  have w1:Y1 p.epoch=true:=by unfold Y1;simp only[Bool.and_eq_true,decide_eq_true_eq];omega
  have w2:Y1 p.seq=true:=by unfold Y1;simp only[Bool.and_eq_true,decide_eq_true_eq];omega
  exact⟨by decide,hv,ha,w1,w2,trivial⟩
 have hb:(p.blk vol g m).body.length≤228:=by show (pcB p).length≤228;omega
 refine⟨?_,z9e hn hb⟩
 unfold Pc.sector
 rw[hp,hg,hv,decide_eq_false (show ¬ m<0 by omega),decide_eq_false (show ¬ m≥2 by omega)]
 show (p.blk vol g m).sld=_
 unfold Blk.sld
 rw[hn,decide_eq_false (show ¬ (p.blk vol g m).body.length > 228 by omega)]
end Go.Proofs.YtinfbclgkghgaaaGreat.AL
namespace Go.Proofs.YtinfbclgkghgaaaGreat.AL
open Go Go.Proofs
abbrev q8j (S R:List (List PV))(long:Int):ABlk:=.cells v3u [.p (.sl 1 S),.p (.sl 1 R),i64 long]
set_option maxRecDepth 20000 in
theorem w0e (S:List z7)(R:List (List PV))(long:Int)(i:Nat)(s:z7)(hs:S[i]?=some s):AFm Tryz.prog 1 z3m [.ref 0 0,i64 i] [q8j (z4 S) R long] (v9 (bl (decide (0<s.length))) [q8j (z4 S) R long]):=by
 refine AFm.mono (R:=fun r H'=>∃ z,z=decide (0<s.length)∧r=bl z∧H'=[q8j (z4 S) R long]) ?_ (by rintro r H' ⟨z,rfl,rfl,rfl⟩;exact⟨rfl,rfl⟩)
 have hb:=w9 s
 have hx:(z4 S)[((i:Nat):Int).toNat]?=some [bP s]:=by rw[Int.toNat_natCast];exact Q4 hs
 refine Q5 1 hT y7t rfl rfl y7u rfl rfl ?_
 refine q8 (q7 hT ?_)
 refine q8 (q7 hT ?_)
 refine⟨by omega,v7 hx ?_⟩
 refine y5 ?_
 refine z9 [0] ⟨decide ((((bx s).length:Nat):Int) > 0),?_,rfl,rfl⟩ rfl
 rw[hb]
 by_cases h:0<s.length
 ·rw[decide_eq_true h,decide_eq_true (by omega)]
 ·rw[decide_eq_false h,decide_eq_false (by omega)]
def q7s (S:List z7)(c:Nat):Int:=match S.any (fun s=>decide (0<s.length)) with|true=>c|false=>0
theorem w4e (S:List z7)(c:Nat)(s:z7):q7s (S++[s]) c=match decide (0<s.length) with|true=>(c:Int)|false=>q7s S c:=by
 unfold q7s
 rw[List.any_append]
 cases hs:decide (0<s.length) <;> simp[hs]
set_option maxHeartbeats 1000000 in
set_option maxRecDepth 20000 in
theorem v8c (S:List z7)(R:List (List PV))(c:Nat)(c1:1≤c)(c2:c≤4096)(hl:S.length≤64)(hS:∀ s∈S,s.length=0∨s.length=c) :
 AFm Tryz.prog 1 x3q [.ref 0 0] [q8j (z4 S) R 0] (v9 (bl true) [q8j (z4 S) R (q7s S c)]):=by
 refine AFm.mono (R:=fun r H'=>∃ z,z=true∧r=bl z∧H'=[q8j (z4 S) R (q7s S c)]) ?_ (by rintro r H' ⟨z,rfl,rfl,rfl⟩;exact⟨rfl,rfl⟩)
 have hcl:=Q2 S
 refine Q5 1 hT x3r rfl rfl x3s rfl rfl ?_
 refine q8 (q7 hT ?_)
 refine z8 ⟨⟨42,[(0,.ref 0 0)]⟩,[q8j (z4 S) R (q7s S c)]⟩ True (q8 (q7 hT ?_)) (fun _=>?_)
 ·refine z3 ?_
  refine y8 (fun n s=>∃ (k:Nat) (j long:Int),n+k=S.length∧j=k∧long=q7s (S.take k) c∧s=⟨⟨42,[(0,.ref 0 0),(8,.p (.sl 1 (z4 S))),(9,i64 (z4 S).length),(10,i64 j)]⟩,[q8j (z4 S) R long]⟩) S.length ⟨⟨42,_⟩,_⟩ (q9 [0] [0,8,9,10] rfl) ⟨0,0,0,rfl,rfl,rfl,rfl⟩ ?_
  rintro n s ⟨k,j,long,hnk,hj,hlong,rfl⟩
  refine q8 (q7 hT ?_)
  refine q8 (z2 (y4 (fun h=>?_) (fun h=>?_)))
  ·have h:=of_decide_eq_true (show decide (j<(((z4 S).length:Nat):Int))=true from h)
   have hk:k<S.length:=by omega
   refine z5 ?_
   have hx:=List.getElem?_eq_getElem hk
   have hsl:=hS _ (List.getElem_mem hk)
   generalize S[k]=x at hx hsl
   have hxp:(z4 S)[j.toNat]?=some [bP x]:=by rw[hj,Int.toNat_natCast];exact Q4 hx
   have hbx:=w9 x
   have hstep:q7s (S.take (k+1)) c=match decide (0<x.length) with|true=>(c:Int)|false=>q7s (S.take k) c:=by
    rw[List.take_add_one,hx];exact w4e _ _ _
   have hlc:long=0∨long=c:=by
    rw[hlong];unfold q7s;split
    ·exact .inr rfl
    ·exact .inl rfl
   rw[← hlong]at hstep
   have w:=w0e S R long k x hx
   rw[← hj]at w
   obtain⟨e,he⟩:∃ e,e=decide (0<x.length):=⟨_,rfl⟩
   rw[← he]at w hstep
   refine y6 (fun st=>∃ long',long'=q7s (S.take (k+1)) c∧st=⟨⟨42,[(0,.ref 0 0),(8,.p (.sl 1 (z4 S))),(9,i64 (z4 S).length),(10,i64 j)]⟩,[q8j (z4 S) R long']⟩) (z3 (q8 (q7 hT ?_))) ?_
   ·refine⟨by omega,v7 hxp ?_⟩
    refine z8 ⟨⟨42,[(0,.ref 0 0),(4,bA x),(8,.p (.sl 1 (z4 S))),(9,i64 (z4 S).length),(10,i64 j)]⟩,[q8j (z4 S) R long]⟩ (e=true) (q8 (q7 hT ?_)) (fun h1=>?_)
    ·refine y9 (u6 [0] w rfl rfl rfl) ?_
     refine z2 (y4 (fun h=>?_) (fun h=>?_))
     ·have h:(!e)=true:=h
      rw[(Bool.not_eq_true' _).mp h]at hstep
      refine x9 ?_
      exact⟨_,q9 [0] [0,8,9,10] rfl,long,hstep.symm,rfl⟩
     ·have h:(!e)=false:=h
      exact z5 ⟨q9 [0] [0,4,8,9,10] rfl,(Bool.not_eq_false' _).mp h⟩
    rw[h1]at he hstep
    have hxc:x.length=c:=by
     have:=of_decide_eq_true he.symm
     omega
    refine y6 (fun st=>∃ v:Int,v=c∧st=⟨⟨42,[(0,.ref 0 0),(4,bA x),(8,.p (.sl 1 (z4 S))),(9,i64 (z4 S).length),(10,i64 j)]⟩,[q8j (z4 S) R v]⟩) (q8 (q7 hT ?_)) ?_
    ·refine z2 (y4 (fun h=>?_) (fun h=>?_))
     ·refine q7 hT ?_
      exact⟨_,q9 [0] [0,4,8,9,10] rfl,_,(show (((bx x).length:Nat):Int)=(c:Int) by omega),rfl⟩
     ·have h:(long==0)=false:=h
      have h:=beq_eq_false_iff_ne.mp h
      exact z5 ⟨_,q9 [0] [0,4,8,9,10] rfl,long,by omega,rfl⟩
    rintro _ ⟨v,rfl,rfl⟩
    refine q8 (q7 hT ?_)
    refine z2 (y4 (fun h=>?_) (fun h=>?_))
    ·have h:((((bx x).length:Nat):Int) != (c:Int))=true:=h
     rw[bne_iff_ne]at h
     omega
    ·exact z5 ⟨_,q9 [0] [0,8,9,10] rfl,_,hstep.symm,rfl⟩
   ·rintro _ ⟨long',hl',rfl⟩
    refine q7 hT ?_
    exact⟨n - 1,by omega,_,q9 [0] [0,8,9,10] rfl,k+1,IntKind.i64.wrap (j+1),long',by omega,by rw[y7 _ (by omega) (by omega)];omega,hl',rfl⟩
  ·have h:=of_decide_eq_false (show decide (j<(((z4 S).length:Nat):Int))=false from h)
   rw[List.take_of_length_le (by omega)]at hlong
   rw[← hlong]
   refine x9 ?_
   exact⟨q9 [0] [0] rfl,trivial⟩
 refine q8 (q7 hT ?_)
 refine y5 ?_
 refine z9 [0] ⟨_,?_,rfl,rfl⟩ rfl
 unfold q7s
 split
 ·exact decide_eq_true (by omega)
 ·rfl
def X2 (S:List z7)(most:Nat):Nat→List Nat
 |0=>[]
 |i+1=>match decide ((X2 S most i).length<most)&&decide (0<(S.getD i []).length) with
  |true=>X2 S most i++[i]
  |false=>X2 S most i
theorem q8k (S:List z7)(most:Nat):∀ i,(X2 S most i).length≤i∧(X2 S most i).length≤most
 |0=>⟨Nat.le_refl _,Nat.zero_le _⟩
 |i+1=>by
  obtain⟨a,b⟩:=q8k S most i
  unfold X2
  split
  ·rename_i h
   rw[Bool.and_eq_true,decide_eq_true_eq]at h
   rw[List.length_append,List.length_singleton]
   omega
  ·omega
theorem q3j (S:List z7)(most:Nat):∀ i j,j∈X2 S most i→j<i∧0<(S.getD j []).length
 |0,j,h=>by simp[X2]at h
 |i+1,j,h=>by
  unfold X2 at h
  split at h
  ·rename_i hc
   rw[Bool.and_eq_true,decide_eq_true_eq,decide_eq_true_eq]at hc
   rw[List.mem_append,List.mem_singleton]at h
   rcases h with h|rfl
   ·obtain⟨a,b⟩:=q3j S most i j h
    exact⟨by omega,b⟩
   ·exact⟨Nat.lt_succ_self _,hc.2⟩
  ·obtain⟨a,b⟩:=q3j S most i j h
   exact⟨by omega,b⟩
def ixN (l:List Nat):List (List PV):=l.map fun n:Nat=>([.raw (.int .i64 (n:Int))]:List PV)
theorem w6p (l:List Nat):(ixN l).length=l.length:=by simp[ixN]
theorem v5r (l:List Nat)(n:Nat):ixN (l++[n])=ixN l++[[.raw (.int .i64 (n:Int))]]:=by simp[ixN]
theorem v8d {l:List Nat}{i n:Nat}(h:l[i]?=some n):(ixN l)[i]?=some [.raw (.int .i64 (n:Int))]:=by rw[ixN,List.getElem?_map,h];rfl
abbrev w0f:AV:=.mth (.func z3m) [.ref 0 0]
set_option maxHeartbeats 1000000 in
set_option maxRecDepth 20000 in
theorem v0b (S:List z7)(R:List (List PV))(long:Int)(most:Nat)(hl:S.length≤64)(hm:most≤64) :
 AFm Tryz.prog 1 x7q [i64 S.length,i64 most,w0f] [q8j (z4 S) R long] (v9 (.p (.sl 1 (ixN (X2 S most S.length)))) [q8j (z4 S) R long]):=by
 have hcl:=Q2 S
 obtain⟨N,hN⟩:∃ N,N=S.length:=⟨_,rfl⟩
 rw[← hN]
 refine Q5 1 hT x7r rfl rfl x7s rfl rfl ?_
 refine q8 (q7 hT ?_)
 refine z8 ⟨⟨28,[(0,i64 N),(1,i64 most),(2,w0f),(7,.msl 1 1 0 0)]⟩,[q8j (z4 S) R long,.row q4e 1 []]⟩ True (q7 hT ?_) (fun _=>?_)
 ·exact⟨Wk.trans (X5 q4e 1) (Wk.trans (q2h 7 1 1 0 rfl) (q9 [0,1] [0,1,2,7] rfl)),trivial⟩
 refine y6 (fun st=>∃ L,L=X2 S most N∧st=⟨⟨28,[(7,.msl 1 1 0 (ixN L).length)]⟩,[q8j (z4 S) R long,.row q4e 1 (ixN L)]⟩) (q8 (q7 hT ?_)) ?_
 ·refine z3 ?_
  refine y8 (fun n s=>∃ (k:Nat) (j:Int) (L:List Nat),n+k=N∧j=k∧L=X2 S most k∧s=⟨⟨28,[(0,i64 N),(1,i64 most),(2,w0f),(7,.msl 1 1 0 (ixN L).length),(9,i64 N),(10,i64 j)]⟩,[q8j (z4 S) R long,.row q4e 1 (ixN L)]⟩) N ⟨⟨28,_⟩,_⟩ (q9 [0,1] [0,1,2,7,9,10] rfl) ⟨0,0,[],by omega,rfl,rfl,rfl⟩ ?_
  rintro n s ⟨k,j,L,hnk,hj,hL,rfl⟩
  have hll:=q8k S most k
  rw[← hL]at hll
  have hil:=w6p L
  refine q8 (q7 hT ?_)
  refine q8 (z2 (y4 (fun h=>?_) (fun h=>?_)))
  ·have h:=of_decide_eq_true (show decide (j<(N:Int))=true from h)
   have hk:k<S.length:=by omega
   refine z5 ?_
   have hx:=List.getElem?_eq_getElem hk
   have hstep:X2 S most (k+1)=match decide (L.length<most)&&decide (0<S[k].length) with|true=>L++[k]|false=>L:=by
    rw[X2,← hL,List.getD_eq_getElem?_getD,hx];rfl
   generalize S[k]=x at hx hstep
   have w:=w0e S R long k x hx
   rw[← hj]at w
   obtain⟨e,he⟩:∃ e,e=decide (0<x.length):=⟨_,rfl⟩
   rw[← he]at w hstep
   have hd:decide (L.length<most)=decide ((((ixN L).length:Nat):Int)<(most:Int)):=by
    by_cases c:L.length<most
    ·rw[decide_eq_true c,decide_eq_true (by omega)]
    ·rw[decide_eq_false c,decide_eq_false (by omega)]
   rw[hd]at hstep
   refine y6 (fun st=>∃ L2,L2=X2 S most (k+1)∧st=⟨⟨28,[(0,i64 N),(1,i64 most),(2,w0f),(7,.msl 1 1 0 (ixN L2).length),(9,i64 N),(10,i64 j)]⟩,[q8j (z4 S) R long,.row q4e 1 (ixN L2)]⟩) (z3 (q8 (q7 hT ?_))) ?_
   ·refine y6 (fun st=>∃ b,b=(decide ((((ixN L).length:Nat):Int)<(most:Int))&&e)∧st=⟨⟨28,[(0,i64 N),(1,i64 most),(2,w0f),(7,.msl 1 1 0 (ixN L).length),(8,i64 j),(9,i64 N),(10,i64 j),(21,bl b)]⟩,[q8j (z4 S) R long,.row q4e 1 (ixN L)]⟩) (q7 hT ?_) ?_
    ·refine y4 (fun h=>?_) (fun h=>?_)
     ·refine y9 (u6 [0] w rfl rfl rfl) ?_
      exact⟨_,q9 [0,1] [0,1,2,7,8,9,10,21] rfl,e,by rw[show decide ((((ixN L).length:Nat):Int)<(most:Int))=true from h,Bool.true_and],rfl⟩
     ·exact⟨_,q9 [0,1] [0,1,2,7,8,9,10,21] rfl,false,by rw[show decide ((((ixN L).length:Nat):Int)<(most:Int))=false from h,Bool.false_and],rfl⟩
    rintro _ ⟨b,hb,rfl⟩
    rw[← hb]at hstep
    refine z2 (y4 (fun h=>?_) (fun h=>?_))
    ·have h:b=true:=h
     rw[h]at hstep
     refine W4 (fun k=>Nat.beq 2 k) hT ?_
     refine⟨⟨rfl,rfl⟩,?_⟩
     refine⟨rfl,⟨?_,?_⟩,?_⟩
     ·show ((ixN L).length+1)*8≤_
      omega
     ·show (ixN L).length+1≤_
      omega
     refine⟨_,q9 [0,2] [0,1,2,7,9,10] rfl,L++[k],hstep.symm,?_⟩
     rw[v5r,← hj];rfl
    ·have h:b=false:=h
     rw[h]at hstep
     exact z5 ⟨_,q9 [0,1] [0,1,2,7,9,10] rfl,L,hstep.symm,rfl⟩
   ·rintro _ ⟨L2,hL2,rfl⟩
    refine q7 hT ?_
    exact⟨n - 1,by omega,_,q9 [0,1] [0,1,2,7,9,10] rfl,k+1,IntKind.i64.wrap (j+1),L2,by omega,by rw[y7 _ (by omega) (by omega)];omega,hL2,rfl⟩
  ·have h:=of_decide_eq_false (show decide (j<(N:Int))=false from h)
   rw[show k=N by omega]at hL
   refine x9 ?_
   exact⟨_,q9 [0,1] [7] rfl,L,hL,rfl⟩
 rintro _ ⟨L,rfl,rfl⟩
 refine q8 (q7 hT ?_)
 refine Q1 (V3 6 1 _ rfl rfl rfl rfl) ?_
 refine y5 ?_
 exact z9 [0] ⟨rfl,rfl⟩ rfl
end Go.Proofs.YtinfbclgkghgaaaGreat.AL
namespace Go.Proofs.YtinfbclgkghgaaaGreat.AL
open Go Go.Proofs
def byB (S:List z7)(k m:Nat):List z7:=(X2 S k (k+m)).map fun i=>(W9 k m).getD i []
def ofB (S:List z7)(k m:Nat):List z7:=(X2 S k (k+m)).map fun i=>S.getD i []
def q5f (S:List z7)(k m c:Nat):List z7:=(z9h (byB S k m)).map fun a=>x7 a (ofB S k m) c k
def q7x (S:List z7)(k m c:Nat):List z7 × Int:=match decide ((X2 S k (k+m)).length<k) with
 |true=>([],9)
 |false=>(q5f S k m c++q4b (q5f S k m c) m c,0)
theorem v8e {r:Nat}{L:List z7}(hok:z9f r L=true)(hL:L.length=r)(hr:∀ s∈L,s.length=r):∀ s∈z9h L,s.length=r:=fun s hs=>by
 rw[q8h hL,List.mem_map]at hs
 obtain⟨i,hi,rfl⟩:=hs
 exact(z9g hok hL hr r (Nat.le_refl _)).2 i (List.mem_range.mp hi)
theorem y5w (L:List z7):(z9h L).length=L.length:=by unfold z9h;rw[List.length_map,List.length_range]
set_option maxHeartbeats 2000000 in
set_option maxRecDepth 20000 in
theorem v0c (S:List z7)(k m c:Nat)(k1:1≤k)(k4:k≤4)(m1:1≤m)(m3:m≤3)(c1:1≤c)(c2:c≤4096)(hl:S.length=k+m)(hS:∀ s∈S,s.length=0∨s.length=c)
 (hok:(X2 S k (k+m)).length=k→z9f k (byB S k m)=true) :
 AF Tryz.prog x6t [.p (.sl 1 (z4 S)),i64 k] [] (v9 (.tup [.p (.sl 1 (z4 (q7x S k m c).1)),i64 (q7x S k m c).2]) []):=by
 refine AF.mono (R:=fun r H'=>∃ z,z=q7x S k m c∧r=.tup [.p (.sl 1 (z4 z.1)),i64 z.2]∧H'=[]) ?_ (by rintro r H' ⟨z,rfl,rfl,rfl⟩;exact⟨rfl,rfl⟩)
 have eD:q7x S k m c=match decide ((X2 S k (k+m)).length<k) with
  |true=>([],9)
  |false=>(q5f S k m c++q4b (q5f S k m c) m c,0):=rfl
 have hcl:=Q2 S
 have hm:IntKind.i64.wrap ((((z4 S).length:Nat):Int) - (k:Int))=(m:Int):=by rw[y7 _ (by omega) (by omega)];omega
 have wr:=w6n k m k1 k4 m1 m3
 have hrl:=z2x k m
 have wmay:=v8c S (z4 (W9 k m)) c c1 c2 (by omega) hS
 have wpk:=v0b S (z4 (W9 k m)) (q7s S c) k (by omega) (by omega)
 rw[hl]at wpk
 have hgl:=q8k S k (k+m)
 have hgm:=q3j S k (k+m)
 have hbyE:byB S k m=(X2 S k (k+m)).map fun i=>(W9 k m).getD i []:=rfl
 have hofE:ofB S k m=(X2 S k (k+m)).map fun i=>S.getD i []:=rfl
 have hdE:q5f S k m c=(z9h (byB S k m)).map fun a=>x7 a (ofB S k m) c k:=rfl
 generalize q7x S k m c=Z at eD
 generalize q7s S c=long at wmay wpk
 generalize q5f S k m c=D at eD hdE
 generalize hby:byB S k m=BY at hbyE hdE hok
 generalize hof:ofB S k m=OF at hofE hdE
 generalize X2 S k (k+m)=G at eD wpk hgl hgm hbyE hofE hok
 have hGc:(((k+m:Nat):Int))=(((z4 S).length:Nat):Int):=by omega
 rw[hGc]at wpk
 have hgi:=w6p G
 have hRc:=Q2 (W9 k m)
 have hRg:=fun(i:Nat) (hi:i<k+m)=>Q4 (List.getElem?_eq_getElem (l:=W9 k m) (i:=i) (by rw[hrl];exact hi))
 have hRd:=fun(i:Nat) (hi:i<k+m)=>(show (W9 k m).getD i []=(W9 k m)[i]'(by rw[hrl];exact hi) by rw[List.getD_eq_getElem?_getD,List.getElem?_eq_getElem (by rw[hrl];exact hi)];rfl)
 have hrow:=@x0f k m
 rw[← hm]at wr
 generalize hRR:z4 (W9 k m)=R at wr wmay wpk hRg hRc
 refine v8 hT x6u rfl rfl x6v rfl ?_
 refine q8 (q7 hT ?_)
 refine z8 ⟨⟨97,[(0,.p (.sl 1 (z4 S))),(1,i64 k),(6,.p (.sl 1 R)),(7,i64 0)]⟩,[]⟩ True (q7 hT ?_) (fun _=>?_)
 ·refine y9 (w7 wr _ rfl rfl) ?_
  exact⟨q9 [] [0,1,6,7] rfl,trivial⟩
 refine z8 ⟨⟨97,[(0,.p (.sl 1 (z4 S))),(1,i64 k),(6,.p (.sl 1 R)),(7,i64 0),(8,.ref 0 0)]⟩,[q8j (z4 S) R 0]⟩ True (q7 hT ?_) (fun _=>?_)
 ·exact⟨q9 [0] [0,1,6,7,8] rfl,trivial⟩
 refine z8 ⟨⟨97,[(0,.p (.sl 1 (z4 S))),(1,i64 k),(6,.p (.sl 1 R)),(8,.ref 0 0)]⟩,[q8j (z4 S) R long]⟩ True (q8 (q7 hT ?_)) (fun _=>?_)
 ·refine y9 (u6 [0] wmay rfl rfl rfl) ?_
  refine z2 ?_
  exact z5 ⟨q9 [0] [0,1,6,8] rfl,trivial⟩
 refine z8 ⟨⟨97,[(0,.p (.sl 1 (z4 S))),(1,i64 k),(6,.p (.sl 1 R)),(9,.p (.sl 1 (ixN G)))]⟩,[]⟩ True (q7 hT ?_) (fun _=>?_)
 ·refine y9 (u6 [0] wpk rfl rfl rfl) ?_
  exact⟨q9 [] [0,1,6,9] rfl,trivial⟩
 refine z8 ⟨⟨97,[(0,.p (.sl 1 (z4 S))),(1,i64 k),(6,.p (.sl 1 R)),(9,.p (.sl 1 (ixN G)))]⟩,[]⟩ (G.length=k) (q8 (q7 hT ?_)) ?_
 ·refine z2 (y4 (fun h=>?_) (fun h=>?_))
  ·have h:=of_decide_eq_true (show decide ((((ixN G).length:Nat):Int)<(k:Int))=true from h)
   rw[decide_eq_true (show G.length<k by omega)]at eD
   refine q8 (q7 hT ?_)
   refine Q1 (q2t 4 1 rfl) ?_
   refine y5 ?_
   exact z9 [] ⟨([],9),eD.symm,rfl,rfl⟩ rfl
  ·have h:=of_decide_eq_false (show decide ((((ixN G).length:Nat):Int)<(k:Int))=false from h)
   exact z5 ⟨q9 [] [0,1,6,9] rfl,by omega⟩
 intro hGk
 rw[decide_eq_false (show ¬ G.length<k by omega)]at eD
 have hok:=hok hGk
 have hBl:BY.length=k:=by rw[hbyE,List.length_map,hGk]
 have hOl:OF.length=k:=by rw[hofE,List.length_map,hGk]
 have hBr:∀ s∈BY,s.length=k:=fun s hs=>by
  rw[hbyE,List.mem_map]at hs
  obtain⟨i,hi,rfl⟩:=hs
  have hi2:=(hgm i hi).1
  rw[hRd i hi2]
  exact hrow _ (List.getElem_mem _)
 have hOr:∀ s∈OF,s.length=c:=fun s hs=>by
  rw[hofE,List.mem_map]at hs
  obtain⟨i,hi,rfl⟩:=hs
  obtain⟨hi2,hi3⟩:=hgm i hi
  have hm2:S.getD i []∈S:=by
   rw[List.getD_eq_getElem?_getD,List.getElem?_eq_getElem (show i<S.length by omega)]
   exact List.getElem_mem _
  have:=hS _ hm2
  omega
 have hil:(z9h BY).length=k:=(y5w BY).trans hBl
 have wi:=v5q BY (by omega) (by omega) (by rw[hBl];exact hBr) (by rw[hBl];exact hok)
 have wx:=w9x (z9h BY) OF k c (by omega) (by omega) k1 (by omega) c1 c2 (v8e hok hBl hBr) hOl hOr
 rw[← hdE,hil]at wx
 have hDl:D.length=k:=by rw[hdE,List.length_map,hil]
 have hDr:∀ s∈D,s.length=c:=fun s hs=>by
  rw[hdE,List.mem_map]at hs
  obtain⟨a,_,rfl⟩:=hs
  exact Q9 a hOr (by omega)
 have we:=y5u D m c (by omega) (by omega) m1 m3 c1 c2 hDr
 rw[hDl,← hm]at we
 have hEl:(q4b D m c).length=m:=by unfold q4b;rw[List.length_map,q2s]
 generalize q4b D m c=E at eD we hEl
 generalize z9h BY=V at wi wx
 clear hok hil hdE
 refine z8 ⟨⟨97,[(0,.p (.sl 1 (z4 S))),(1,i64 k),(6,.p (.sl 1 R)),(9,.p (.sl 1 (ixN G))),(10,.msl 0 1 0 0),(11,.msl 1 1 0 0)]⟩,[.row z0 1 [],.row z0 1 []]⟩ True (q7 hT ?_) (fun _=>?_)
 ·exact⟨Wk.trans (X5 z0 1) (Wk.trans (X5 z0 1) (Wk.trans (q2h 10 0 1 0 rfl) (Wk.trans (q2h 11 1 1 0 rfl) (q9 [0,1] [0,1,6,9,10,11] rfl)))),trivial⟩
 refine z8 ⟨⟨97,[(0,.p (.sl 1 (z4 S))),(1,i64 k),(10,.msl 0 1 0 (z4 BY).length),(11,.msl 1 1 0 (z4 OF).length)]⟩,[.row z0 1 (z4 BY),.row z0 1 (z4 OF)]⟩ True (q8 (q7 hT ?_)) (fun _=>?_)
 ·refine z3 ?_
  refine y8 (fun n s=>∃ (i:Nat) (j:Int) (X Y:List z7),n+i=k∧j=i∧X=BY.take i∧Y=OF.take i∧s=⟨⟨97,[(0,.p (.sl 1 (z4 S))),(1,i64 k),(6,.p (.sl 1 R)),(10,.msl 0 1 0 (z4 X).length),(11,.msl 1 1 0 (z4 Y).length),(48,.p (.sl 1 (ixN G))),(49,i64 (ixN G).length),(50,i64 j)]⟩,[.row z0 1 (z4 X),.row z0 1 (z4 Y)]⟩) k ⟨⟨97,_⟩,_⟩ (q9 [0,1] [0,1,6,10,11,48,49,50] rfl) ⟨0,0,[],[],by omega,rfl,rfl,rfl,rfl⟩ ?_
  rintro n s ⟨i,j,X,Y,hni,hj,hX,hY,rfl⟩
  refine q8 (q7 hT ?_)
  refine q8 (z2 (y4 (fun h=>?_) (fun h=>?_)))
  ·have h:=of_decide_eq_true (show decide (j<(((ixN G).length:Nat):Int))=true from h)
   have hi:i<G.length:=by omega
   refine z5 ?_
   have hg:=List.getElem?_eq_getElem hi
   have hgi2:=(hgm _ (List.getElem_mem hi)).1
   have hby2:BY[i]?=some ((W9 k m).getD G[i] []):=by rw[hbyE,List.getElem?_map,hg];rfl
   have hof2:OF[i]?=some (S.getD G[i] []):=by rw[hofE,List.getElem?_map,hg];rfl
   generalize G[i]=a at hg hgi2 hby2 hof2
   have hSa:=List.getElem?_eq_getElem (show a<S.length by omega)
   rw[List.getD_eq_getElem?_getD,hSa]at hof2
   have hof2:OF[i]?=some S[a]:=hof2
   have hSl:=hOr _ (List.mem_of_getElem? hof2)
   generalize S[a]=sa at hSa hof2 hSl
   have hRa:=hRg a hgi2
   rw[← hRd a hgi2]at hRa
   generalize (W9 k m).getD a []=ra at hby2 hRa
   have hX2:BY.take (i+1)=X++[ra]:=by rw[List.take_add_one,hby2,hX];rfl
   have hY2:OF.take (i+1)=Y++[sa]:=by rw[List.take_add_one,hof2,hY];rfl
   have hXl:(z4 X).length≤64:=by rw[Q2,hX,List.length_take];omega
   have hYl:(z4 Y).length≤64:=by rw[Q2,hY,List.length_take];omega
   have hgp:(ixN G)[j.toNat]?=some [.raw (.int .i64 (a:Int))]:=by rw[hj,Int.toNat_natCast];exact v8d hg
   have hRp:R[((a:Nat):Int).toNat]?=some [bP ra]:=by rw[Int.toNat_natCast];exact hRa
   have hSp:(z4 S)[((a:Nat):Int).toNat]?=some [bP sa]:=by rw[Int.toNat_natCast];exact Q4 hSa
   have wc:=z6h sa (by omega)
   refine y6 (fun st=>∃ X' Y':List z7,X'=X++[ra]∧Y'=Y++[sa]∧st=⟨⟨97,[(0,.p (.sl 1 (z4 S))),(1,i64 k),(6,.p (.sl 1 R)),(10,.msl 0 1 0 (z4 X').length),(11,.msl 1 1 0 (z4 Y').length),(48,.p (.sl 1 (ixN G))),(49,i64 (ixN G).length),(50,i64 j)]⟩,[.row z0 1 (z4 X'),.row z0 1 (z4 Y')]⟩) (z3 (q8 (q7 hT ?_))) ?_
   ·refine⟨by omega,v7 hgp ?_⟩
    refine x6 [6,14] [5,13] hT z6 (by rfl) ?_
    refine⟨by omega,v7 hRp ?_⟩
    refine⟨⟨rfl,rfl⟩,?_⟩
    refine⟨rfl,⟨?_,?_⟩,?_⟩
    ·show ((z4 X).length+1)*24≤_
     omega
    ·show (z4 X).length+1≤_
     omega
    refine⟨by omega,v7 hSp ?_⟩
    refine⟨_,w7 wc _ rfl rfl,?_⟩
    refine⟨⟨rfl,rfl⟩,?_⟩
    refine⟨rfl,⟨?_,?_⟩,?_⟩
    ·show ((z4 Y).length+1)*24≤_
     omega
    ·show (z4 Y).length+1≤_
     omega
    repeat first|refine⟨rfl,?_⟩|refine⟨⟨by omega,v7 hRp rfl⟩,?_⟩|refine⟨⟨by omega,v7 hSp rfl⟩,?_⟩|refine⟨⟨_,w7 wc _ rfl rfl,rfl⟩,?_⟩
    exact⟨_,q9 [2,3] [0,1,6,10,11,48,49,50] rfl,_,_,rfl,rfl,by rw[J4,J4];rfl⟩
   ·rintro _ ⟨X',Y',rfl,rfl,rfl⟩
    refine q7 hT ?_
    exact⟨n - 1,by omega,_,q9 [0,1] [0,1,6,10,11,48,49,50] rfl,i+1,IntKind.i64.wrap (j+1),_,_,by omega,by rw[y7 _ (by omega) (by omega)];omega,hX2.symm,hY2.symm,rfl⟩
  ·have h:=of_decide_eq_false (show decide (j<(((ixN G).length:Nat):Int))=false from h)
   rw[List.take_of_length_le (by omega)]at hX hY
   rw[hX,hY]
   refine x9 ?_
   exact⟨q9 [0,1] [0,1,10,11] rfl,trivial⟩
 refine Q1 (V3 10 0 _ rfl rfl rfl rfl) ?_
 refine Q1 (V3 11 1 _ rfl rfl rfl rfl) ?_
 refine z8 ⟨⟨97,[(0,.p (.sl 1 (z4 S))),(1,i64 k),(7,i64 0),(11,.p (.sl 1 (z4 OF))),(14,.p (.sl 1 (z4 V)))]⟩,[]⟩ True (q7 hT ?_) (fun _=>?_)
 ·refine y9 (w7 wi _ rfl rfl) ?_
  exact⟨q9 [] [0,1,7,11,14] rfl,trivial⟩
 refine q8 (q8 (q7 hT ?_))
 refine z2 ?_
 refine z5 ?_
 refine z8 ⟨⟨97,[(0,.p (.sl 1 (z4 S))),(1,i64 k),(15,.msl 0 1 0 k)]⟩,[.row z0 1 (z4 D)]⟩ True (q7 hT ?_) (fun _=>?_)
 ·refine y9 wx ?_
  exact⟨q9 [0] [0,1,15] rfl,trivial⟩
 refine z8 ⟨⟨97,[(7,i64 0),(15,.msl 0 1 0 k),(17,.p (.sl 1 (z4 E)))]⟩,[.row z0 1 (z4 D)]⟩ True (q7 hT ?_) (fun _=>?_)
 ·refine y9 (u6 [0] we rfl rfl rfl) ?_
  exact⟨q9 [0] [7,15,17] rfl,trivial⟩
 have hDc:=Q2 D
 have hEc:=Q2 E
 refine q8 (q7 hT ?_)
 refine⟨by omega,⟨by show ((z4 D).length+(z4 E).length)*24≤_;omega,by omega⟩,?_⟩
 refine Q1 (V3 4 1 _ rfl rfl rfl rfl) ?_
 refine y5 ?_
 exact z9 [] ⟨(D++E,0),eD.symm,(by show AV.tup [.p (.sl 1 (z4 D++z4 E)),i64 0]=_;rw[← J4]),rfl⟩ rfl
end Go.Proofs.YtinfbclgkghgaaaGreat.AL
