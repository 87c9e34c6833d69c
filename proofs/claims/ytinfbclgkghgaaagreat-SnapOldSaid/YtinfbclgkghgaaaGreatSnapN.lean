/- A part of the proof. -/
import Derived.Test.YtinfbclgkghgaaaGreatSnapM
/- The layer 2 (mat): the product of two matrices,the second one a row of one's own (printed by genmat.py). -/

namespace Go.Proofs.YtinfbclgkghgaaaGreat.AL
open Go Go.Proofs
set_option maxHeartbeats 4000000 in
set_option maxRecDepth 20000 in
theorem w9v (a0:y7)(B:List y7)(q c:Nat)(q1:1≤q)(q2:q≤64)(c1:1≤c)(c2:c≤4096)(hA:∀ s∈([a0]:List y7),s.length=q)(hB:B.length=q)(hBc:∀ s∈B,s.length=c) :
 AFm Tryz.prog 1 J7 [.p (.sl 1 (y6 [a0])),.msl 0 1 0 q] [.row z5 1 (y6 B)] (Q0 (.tup [.p (.sl 1 (y6 [v9 a0 B c q])),i64 0]) [.row z5 1 (y6 B)]):=by
 have wA:=J1 [a0] q (show 1≤1 by decide) (show 1≤64 by decide) q1 (by omega) hA
 have wB:=J1 B c (by omega) (by omega) c1 c2 hBc
 have wn:=q3e
 have hcl:=Z7 B
 have h0:=List.getElem?_eq_getElem (show 0<B.length by omega)
 have hc0:=hBc _ (List.getElem_mem (show 0<B.length by omega))
 generalize B[0]=b0 at h0 hc0
 have hx0:(y6 B)[0+(0:Int).toNat]?=some [bP b0]:=Z2 h0
 have hb0:=u6 b0
 have wf:=z2a q0p (bx b0).length (by omega) (fun _ _=>0) (fun i k _ _=>q3m i k)
 have ha0:a0.length=q:=hA a0 (by simp)
 have hx10:=u6 a0
 have hmk0:=Z4 (B:=B) a0 hBc (k:=q) (by omega)
 have wadd:=fun(to row:y7) (x:UInt8) (ht:to.length=c) (hr:row.length=c)=>q5q to row x (by omega) (by omega)
 unfold q2q at wn wadd
 generalize fP=F at wn wadd
 refine Q9 1 hT q3i rfl rfl q3j rfl rfl ?_
 refine q8 (q7 hT ?_)
 have lend:=z5u wB 0 (H:=[.row z5 1 (y6 B)]) (args:=[.msl 0 1 0 q]) (t:=z5) (sz:=1) (xs:=y6 B) rfl ⟨.inr (.inl ⟨congrArg (AV.msl 0 1 0) (show q=(y6 B).length by omega),rfl⟩),trivial⟩ rfl (fun k hk=>by simp at hk)
 refine y8 ⟨⟨65,[(0,.p (.sl 1 (y6 [a0]))),(1,.msl 0 1 0 q)]⟩,[.row z5 1 (y6 B)]⟩ True (q8 (q7 hT ?_)) (fun _=>?_)
 ·refine x8 (u5 wA _ rfl rfl) ?_
  refine x8 lend ?_
  refine⟨by decide,u7 rfl ?_⟩
  refine z6 (x7 (fun h=>?_) (fun h=>?_))
  ·have h:((((bx a0).length:Nat):Int) != ((q:Nat):Int))=true:=h
   rw[bne_iff_ne]at h
   omega
  exact z9 ⟨q9 [0] [0,1] rfl,trivial⟩
 refine q8 (q7 hT ?_)
 refine x8 (u5 wn _ rfl rfl) ?_
 refine w6 (fun st=>∃ c',c'=c∧st=⟨⟨65,[(0,.p (.sl 1 (y6 [a0]))),(1,.msl 0 1 0 q),(6,.p (.box F)),(7,.msl 1 1 0 1)]⟩,[.row z5 1 (y6 B),.cells z5 [.msl 2 1 0 c'],.row z4 1 (bx (Q3 (fun _ _=>0) c' 0))]⟩) (q7 hT ?_) ?_
 ·refine⟨⟨by decide,by omega⟩,?_⟩
  refine u7 hx0 ?_
  refine x8 (q1t wf _ rfl) ?_
  exact⟨_,q9 [0,1,2] [0,1,6,7] rfl,_,hb0.trans hc0,rfl⟩
 rintro _ ⟨c,rfl,rfl⟩
 clear wf
 refine y8 ⟨⟨65,[(7,.msl 1 1 0 1)]⟩,[.row z5 1 (y6 B),.cells z5 [.msl 2 1 0 c],.row z4 1 (bx (v9 a0 B c q))]⟩ True (q8 (q7 hT ?_)) (fun _=>?_)
 ·refine z7 ?_
  refine w7 (fun n s=>(n=1∧s=⟨⟨65,[(0,.p (.sl 1 (y6 [a0]))),(1,.msl 0 1 0 q),(6,.p (.box F)),(7,.msl 1 1 0 1),(37,.p (.sl 1 (y6 [a0]))),(38,i64 1),(39,i64 0)]⟩,[.row z5 1 (y6 B),.cells z5 [.msl 2 1 0 c],.row z4 1 (bx (v9 a0 B c 0))]⟩)∨(n=0∧s=⟨⟨65,[(0,.p (.sl 1 (y6 [a0]))),(1,.msl 0 1 0 q),(6,.p (.box F)),(7,.msl 1 1 0 1),(37,.p (.sl 1 (y6 [a0]))),(38,i64 1),(39,i64 1)]⟩,[.row z5 1 (y6 B),.cells z5 [.msl 2 1 0 c],.row z4 1 (bx (v9 a0 B c q))]⟩)) 1 ⟨⟨65,_⟩,_⟩ (q9 [0,1,2] [0,1,6,7,37,38,39] rfl) (.inl ⟨rfl,by rw[q3n a0 B c 0];rfl⟩) ?_
  rintro n s (⟨rfl,rfl⟩|⟨rfl,rfl⟩)
  ·refine q8 (q7 hT ?_)
   refine q8 (z6 ?_)
   refine z9 ?_
   refine y8 ⟨⟨65,[(0,.p (.sl 1 (y6 [a0]))),(1,.msl 0 1 0 q),(6,.p (.box F)),(7,.msl 1 1 0 1),(37,.p (.sl 1 (y6 [a0]))),(38,i64 1),(8,i64 0),(39,i64 0)]⟩,[.row z5 1 (y6 B),.cells z5 [.msl 2 1 0 c],.row z4 1 (bx (v9 a0 B c q))]⟩ True (z7 ?_) (fun _=>?_)
   ·refine q8 (q7 hT ?_)
    refine⟨by decide,u7 rfl ?_⟩
    refine q8 (q7 hT ?_)
    refine z7 ?_
    refine w7 (fun n s=>∃ (k:Nat) (j:Int),n+k=q∧j=k∧s=⟨⟨65,[(0,.p (.sl 1 (y6 [a0]))),(1,.msl 0 1 0 q),(6,.p (.box F)),(7,.msl 1 1 0 1),(37,.p (.sl 1 (y6 [a0]))),(38,i64 1),(8,i64 0),(39,i64 0),(44,bA a0),(45,i64 (bx a0).length),(46,i64 j)]⟩,[.row z5 1 (y6 B),.cells z5 [.msl 2 1 0 c],.row z4 1 (bx (v9 a0 B c k))]⟩) q ⟨⟨65,_⟩,_⟩ (q9 [0,1,2] [0,1,6,7,37,38,8,39,44,45,46] rfl) ⟨0,0,by omega,rfl,rfl⟩ ?_
    rintro n2 s ⟨k,j,hnk,hj,rfl⟩
    refine q8 (q7 hT ?_)
    refine q8 (z6 (x7 (fun h=>?_) (fun h=>?_)))
    ·have h:=of_decide_eq_true (show decide (j<(((bx a0).length:Nat):Int))=true from h)
     have hk:k<a0.length:=by omega
     have hkB:k<B.length:=by omega
     refine z9 ?_
     have hxa:=List.getElem?_eq_getElem hk
     have hxb:=List.getElem?_eq_getElem hkB
     have hst:=W7 c hxa hxb
     have hlb:=hBc _ (List.getElem_mem hkB)
     generalize a0[k]=x at hxa hst
     generalize B[k]=b at hxb hst hlb
     have hxp:(bx a0)[j.toNat]?=some [u8 x]:=by rw[hj,Int.toNat_natCast];exact Q7 hxa
     have hbp:(y6 B)[0+j.toNat]?=some [bP b]:=by rw[hj,Int.toNat_natCast,Nat.zero_add];exact Z2 hxb
     have hml:=Z4 (B:=B) a0 hBc (k:=k) (by omega)
     have w:=wadd (v9 a0 B c k) b x hml hlb
     rw[hml,← hst]at w
     refine y8 ⟨⟨65,[(0,.p (.sl 1 (y6 [a0]))),(1,.msl 0 1 0 q),(6,.p (.box F)),(7,.msl 1 1 0 1),(37,.p (.sl 1 (y6 [a0]))),(38,i64 1),(8,i64 0),(39,i64 0),(44,bA a0),(45,i64 (bx a0).length),(46,i64 j)]⟩,[.row z5 1 (y6 B),.cells z5 [.msl 2 1 0 c],.row z4 1 (bx (v9 a0 B c (k+1)))]⟩ True (z7 (q8 (q7 hT ?_))) (fun _=>?_)
     ·refine⟨by omega,u7 hxp ?_⟩
      refine w9 [10] [] hT z8 (by rfl) ?_
      refine⟨by decide,?_⟩
      refine⟨⟨by omega,by omega⟩,?_⟩
      refine u7 hbp ?_
      refine⟨_,_,Q1 [2] w rfl rfl rfl,?_⟩
      repeat first|refine⟨rfl,?_⟩|refine⟨⟨by decide,rfl⟩,?_⟩|refine⟨⟨⟨by omega,by omega⟩,rfl⟩,?_⟩|refine⟨u7 hbp rfl,?_⟩
      exact⟨q9 [0,1,2] [0,1,6,7,37,38,8,39,44,45,46] rfl,trivial⟩
     ·refine q7 hT ?_
      exact⟨n2 - 1,by omega,_,q9 [0,1,2] [0,1,6,7,37,38,8,39,44,45,46] rfl,k+1,IntKind.i64.wrap (j+1),by omega,by rw[x9 _ (by omega) (by omega)];omega,rfl⟩
    ·have h:=of_decide_eq_false (show decide (j<(((bx a0).length:Nat):Int))=false from h)
     rw[show k=q by omega]
     refine u0 ?_
     exact⟨q9 [0,1,2] [0,1,6,7,37,38,8,39] rfl,trivial⟩
   ·refine q7 hT ?_
    exact⟨0,by decide,_,q9 [0,1,2] [0,1,6,7,37,38,39] rfl,(.inr ⟨rfl,rfl⟩)⟩
  ·refine q8 (q7 hT ?_)
   refine q8 (z6 ?_)
   refine u0 ?_
   exact⟨q9 [0,1,2] [7] rfl,trivial⟩
 refine Q8 (U9 2 1 0 c rfl rfl rfl (by rw[u6,hmk0])) ?_
 refine Q8 (q1g 1 [bP (v9 a0 B c q)] rfl rfl (show 1≤140737488355328 by decide)) ?_
 refine Q8 (q0s 7 1 _ rfl rfl rfl rfl) ?_
 refine q8 (q7 hT ?_)
 refine x6 ?_
 exact y9 [0] ⟨rfl,rfl⟩ rfl
set_option maxHeartbeats 4000000 in
set_option maxRecDepth 20000 in
theorem w9w (a0 a1:y7)(B:List y7)(q c:Nat)(q1:1≤q)(q2:q≤64)(c1:1≤c)(c2:c≤4096)(hA:∀ s∈([a0,a1]:List y7),s.length=q)(hB:B.length=q)(hBc:∀ s∈B,s.length=c) :
 AFm Tryz.prog 1 J7 [.p (.sl 1 (y6 [a0,a1])),.msl 0 1 0 q] [.row z5 1 (y6 B)] (Q0 (.tup [.p (.sl 1 (y6 [v9 a0 B c q,v9 a1 B c q])),i64 0]) [.row z5 1 (y6 B)]):=by
 have wA:=J1 [a0,a1] q (show 1≤2 by decide) (show 2≤64 by decide) q1 (by omega) hA
 have wB:=J1 B c (by omega) (by omega) c1 c2 hBc
 have wn:=q3e
 have hcl:=Z7 B
 have h0:=List.getElem?_eq_getElem (show 0<B.length by omega)
 have hc0:=hBc _ (List.getElem_mem (show 0<B.length by omega))
 generalize B[0]=b0 at h0 hc0
 have hx0:(y6 B)[0+(0:Int).toNat]?=some [bP b0]:=Z2 h0
 have hb0:=u6 b0
 have wf:=z2b q0p (bx b0).length (by omega) (fun _ _=>0) (fun i k _ _=>q3m i k)
 have ha0:a0.length=q:=hA a0 (by simp)
 have hx10:=u6 a0
 have ha1:a1.length=q:=hA a1 (by simp)
 have hx11:=u6 a1
 have hmk0:=Z4 (B:=B) a0 hBc (k:=q) (by omega)
 have hmk1:=Z4 (B:=B) a1 hBc (k:=q) (by omega)
 have wadd:=fun(to row:y7) (x:UInt8) (ht:to.length=c) (hr:row.length=c)=>q5q to row x (by omega) (by omega)
 unfold q2q at wn wadd
 generalize fP=F at wn wadd
 refine Q9 1 hT q3i rfl rfl q3j rfl rfl ?_
 refine q8 (q7 hT ?_)
 have lend:=z5u wB 0 (H:=[.row z5 1 (y6 B)]) (args:=[.msl 0 1 0 q]) (t:=z5) (sz:=1) (xs:=y6 B) rfl ⟨.inr (.inl ⟨congrArg (AV.msl 0 1 0) (show q=(y6 B).length by omega),rfl⟩),trivial⟩ rfl (fun k hk=>by simp at hk)
 refine y8 ⟨⟨65,[(0,.p (.sl 1 (y6 [a0,a1]))),(1,.msl 0 1 0 q)]⟩,[.row z5 1 (y6 B)]⟩ True (q8 (q7 hT ?_)) (fun _=>?_)
 ·refine x8 (u5 wA _ rfl rfl) ?_
  refine x8 lend ?_
  refine⟨by decide,u7 rfl ?_⟩
  refine z6 (x7 (fun h=>?_) (fun h=>?_))
  ·have h:((((bx a0).length:Nat):Int) != ((q:Nat):Int))=true:=h
   rw[bne_iff_ne]at h
   omega
  exact z9 ⟨q9 [0] [0,1] rfl,trivial⟩
 refine q8 (q7 hT ?_)
 refine x8 (u5 wn _ rfl rfl) ?_
 refine w6 (fun st=>∃ c',c'=c∧st=⟨⟨65,[(0,.p (.sl 1 (y6 [a0,a1]))),(1,.msl 0 1 0 q),(6,.p (.box F)),(7,.msl 1 1 0 2)]⟩,[.row z5 1 (y6 B),.cells z5 [.msl 2 1 0 c',.msl 3 1 0 c'],.row z4 1 (bx (Q3 (fun _ _=>0) c' 0)),.row z4 1 (bx (Q3 (fun _ _=>0) c' 1))]⟩) (q7 hT ?_) ?_
 ·refine⟨⟨by decide,by omega⟩,?_⟩
  refine u7 hx0 ?_
  refine x8 (q1t wf _ rfl) ?_
  exact⟨_,q9 [0,1,2,3] [0,1,6,7] rfl,_,hb0.trans hc0,rfl⟩
 rintro _ ⟨c,rfl,rfl⟩
 clear wf
 refine y8 ⟨⟨65,[(7,.msl 1 1 0 2)]⟩,[.row z5 1 (y6 B),.cells z5 [.msl 2 1 0 c,.msl 3 1 0 c],.row z4 1 (bx (v9 a0 B c q)),.row z4 1 (bx (v9 a1 B c q))]⟩ True (q8 (q7 hT ?_)) (fun _=>?_)
 ·refine z7 ?_
  refine w7 (fun n s=>(n=2∧s=⟨⟨65,[(0,.p (.sl 1 (y6 [a0,a1]))),(1,.msl 0 1 0 q),(6,.p (.box F)),(7,.msl 1 1 0 2),(37,.p (.sl 1 (y6 [a0,a1]))),(38,i64 2),(39,i64 0)]⟩,[.row z5 1 (y6 B),.cells z5 [.msl 2 1 0 c,.msl 3 1 0 c],.row z4 1 (bx (v9 a0 B c 0)),.row z4 1 (bx (v9 a1 B c 0))]⟩)∨(n=1∧s=⟨⟨65,[(0,.p (.sl 1 (y6 [a0,a1]))),(1,.msl 0 1 0 q),(6,.p (.box F)),(7,.msl 1 1 0 2),(37,.p (.sl 1 (y6 [a0,a1]))),(38,i64 2),(39,i64 1)]⟩,[.row z5 1 (y6 B),.cells z5 [.msl 2 1 0 c,.msl 3 1 0 c],.row z4 1 (bx (v9 a0 B c q)),.row z4 1 (bx (v9 a1 B c 0))]⟩)∨(n=0∧s=⟨⟨65,[(0,.p (.sl 1 (y6 [a0,a1]))),(1,.msl 0 1 0 q),(6,.p (.box F)),(7,.msl 1 1 0 2),(37,.p (.sl 1 (y6 [a0,a1]))),(38,i64 2),(39,i64 2)]⟩,[.row z5 1 (y6 B),.cells z5 [.msl 2 1 0 c,.msl 3 1 0 c],.row z4 1 (bx (v9 a0 B c q)),.row z4 1 (bx (v9 a1 B c q))]⟩)) 2 ⟨⟨65,_⟩,_⟩ (q9 [0,1,2,3] [0,1,6,7,37,38,39] rfl) (.inl ⟨rfl,by rw[q3n a0 B c 0,q3n a1 B c 1];rfl⟩) ?_
  rintro n s (⟨rfl,rfl⟩|⟨rfl,rfl⟩|⟨rfl,rfl⟩)
  ·refine q8 (q7 hT ?_)
   refine q8 (z6 ?_)
   refine z9 ?_
   refine y8 ⟨⟨65,[(0,.p (.sl 1 (y6 [a0,a1]))),(1,.msl 0 1 0 q),(6,.p (.box F)),(7,.msl 1 1 0 2),(37,.p (.sl 1 (y6 [a0,a1]))),(38,i64 2),(8,i64 0),(39,i64 0)]⟩,[.row z5 1 (y6 B),.cells z5 [.msl 2 1 0 c,.msl 3 1 0 c],.row z4 1 (bx (v9 a0 B c q)),.row z4 1 (bx (v9 a1 B c 0))]⟩ True (z7 ?_) (fun _=>?_)
   ·refine q8 (q7 hT ?_)
    refine⟨by decide,u7 rfl ?_⟩
    refine q8 (q7 hT ?_)
    refine z7 ?_
    refine w7 (fun n s=>∃ (k:Nat) (j:Int),n+k=q∧j=k∧s=⟨⟨65,[(0,.p (.sl 1 (y6 [a0,a1]))),(1,.msl 0 1 0 q),(6,.p (.box F)),(7,.msl 1 1 0 2),(37,.p (.sl 1 (y6 [a0,a1]))),(38,i64 2),(8,i64 0),(39,i64 0),(44,bA a0),(45,i64 (bx a0).length),(46,i64 j)]⟩,[.row z5 1 (y6 B),.cells z5 [.msl 2 1 0 c,.msl 3 1 0 c],.row z4 1 (bx (v9 a0 B c k)),.row z4 1 (bx (v9 a1 B c 0))]⟩) q ⟨⟨65,_⟩,_⟩ (q9 [0,1,2,3] [0,1,6,7,37,38,8,39,44,45,46] rfl) ⟨0,0,by omega,rfl,rfl⟩ ?_
    rintro n2 s ⟨k,j,hnk,hj,rfl⟩
    refine q8 (q7 hT ?_)
    refine q8 (z6 (x7 (fun h=>?_) (fun h=>?_)))
    ·have h:=of_decide_eq_true (show decide (j<(((bx a0).length:Nat):Int))=true from h)
     have hk:k<a0.length:=by omega
     have hkB:k<B.length:=by omega
     refine z9 ?_
     have hxa:=List.getElem?_eq_getElem hk
     have hxb:=List.getElem?_eq_getElem hkB
     have hst:=W7 c hxa hxb
     have hlb:=hBc _ (List.getElem_mem hkB)
     generalize a0[k]=x at hxa hst
     generalize B[k]=b at hxb hst hlb
     have hxp:(bx a0)[j.toNat]?=some [u8 x]:=by rw[hj,Int.toNat_natCast];exact Q7 hxa
     have hbp:(y6 B)[0+j.toNat]?=some [bP b]:=by rw[hj,Int.toNat_natCast,Nat.zero_add];exact Z2 hxb
     have hml:=Z4 (B:=B) a0 hBc (k:=k) (by omega)
     have w:=wadd (v9 a0 B c k) b x hml hlb
     rw[hml,← hst]at w
     refine y8 ⟨⟨65,[(0,.p (.sl 1 (y6 [a0,a1]))),(1,.msl 0 1 0 q),(6,.p (.box F)),(7,.msl 1 1 0 2),(37,.p (.sl 1 (y6 [a0,a1]))),(38,i64 2),(8,i64 0),(39,i64 0),(44,bA a0),(45,i64 (bx a0).length),(46,i64 j)]⟩,[.row z5 1 (y6 B),.cells z5 [.msl 2 1 0 c,.msl 3 1 0 c],.row z4 1 (bx (v9 a0 B c (k+1))),.row z4 1 (bx (v9 a1 B c 0))]⟩ True (z7 (q8 (q7 hT ?_))) (fun _=>?_)
     ·refine⟨by omega,u7 hxp ?_⟩
      refine w9 [10] [] hT z8 (by rfl) ?_
      refine⟨by decide,?_⟩
      refine⟨⟨by omega,by omega⟩,?_⟩
      refine u7 hbp ?_
      refine⟨_,_,Q1 [2] w rfl rfl rfl,?_⟩
      repeat first|refine⟨rfl,?_⟩|refine⟨⟨by decide,rfl⟩,?_⟩|refine⟨⟨⟨by omega,by omega⟩,rfl⟩,?_⟩|refine⟨u7 hbp rfl,?_⟩
      exact⟨q9 [0,1,2,3] [0,1,6,7,37,38,8,39,44,45,46] rfl,trivial⟩
     ·refine q7 hT ?_
      exact⟨n2 - 1,by omega,_,q9 [0,1,2,3] [0,1,6,7,37,38,8,39,44,45,46] rfl,k+1,IntKind.i64.wrap (j+1),by omega,by rw[x9 _ (by omega) (by omega)];omega,rfl⟩
    ·have h:=of_decide_eq_false (show decide (j<(((bx a0).length:Nat):Int))=false from h)
     rw[show k=q by omega]
     refine u0 ?_
     exact⟨q9 [0,1,2,3] [0,1,6,7,37,38,8,39] rfl,trivial⟩
   ·refine q7 hT ?_
    exact⟨1,by decide,_,q9 [0,1,2,3] [0,1,6,7,37,38,39] rfl,(.inr (.inl ⟨rfl,rfl⟩))⟩
  ·refine q8 (q7 hT ?_)
   refine q8 (z6 ?_)
   refine z9 ?_
   refine y8 ⟨⟨65,[(0,.p (.sl 1 (y6 [a0,a1]))),(1,.msl 0 1 0 q),(6,.p (.box F)),(7,.msl 1 1 0 2),(37,.p (.sl 1 (y6 [a0,a1]))),(38,i64 2),(8,i64 1),(39,i64 1)]⟩,[.row z5 1 (y6 B),.cells z5 [.msl 2 1 0 c,.msl 3 1 0 c],.row z4 1 (bx (v9 a0 B c q)),.row z4 1 (bx (v9 a1 B c q))]⟩ True (z7 ?_) (fun _=>?_)
   ·refine q8 (q7 hT ?_)
    refine⟨by decide,u7 rfl ?_⟩
    refine q8 (q7 hT ?_)
    refine z7 ?_
    refine w7 (fun n s=>∃ (k:Nat) (j:Int),n+k=q∧j=k∧s=⟨⟨65,[(0,.p (.sl 1 (y6 [a0,a1]))),(1,.msl 0 1 0 q),(6,.p (.box F)),(7,.msl 1 1 0 2),(37,.p (.sl 1 (y6 [a0,a1]))),(38,i64 2),(8,i64 1),(39,i64 1),(44,bA a1),(45,i64 (bx a1).length),(46,i64 j)]⟩,[.row z5 1 (y6 B),.cells z5 [.msl 2 1 0 c,.msl 3 1 0 c],.row z4 1 (bx (v9 a0 B c q)),.row z4 1 (bx (v9 a1 B c k))]⟩) q ⟨⟨65,_⟩,_⟩ (q9 [0,1,2,3] [0,1,6,7,37,38,8,39,44,45,46] rfl) ⟨0,0,by omega,rfl,rfl⟩ ?_
    rintro n2 s ⟨k,j,hnk,hj,rfl⟩
    refine q8 (q7 hT ?_)
    refine q8 (z6 (x7 (fun h=>?_) (fun h=>?_)))
    ·have h:=of_decide_eq_true (show decide (j<(((bx a1).length:Nat):Int))=true from h)
     have hk:k<a1.length:=by omega
     have hkB:k<B.length:=by omega
     refine z9 ?_
     have hxa:=List.getElem?_eq_getElem hk
     have hxb:=List.getElem?_eq_getElem hkB
     have hst:=W7 c hxa hxb
     have hlb:=hBc _ (List.getElem_mem hkB)
     generalize a1[k]=x at hxa hst
     generalize B[k]=b at hxb hst hlb
     have hxp:(bx a1)[j.toNat]?=some [u8 x]:=by rw[hj,Int.toNat_natCast];exact Q7 hxa
     have hbp:(y6 B)[0+j.toNat]?=some [bP b]:=by rw[hj,Int.toNat_natCast,Nat.zero_add];exact Z2 hxb
     have hml:=Z4 (B:=B) a1 hBc (k:=k) (by omega)
     have w:=wadd (v9 a1 B c k) b x hml hlb
     rw[hml,← hst]at w
     refine y8 ⟨⟨65,[(0,.p (.sl 1 (y6 [a0,a1]))),(1,.msl 0 1 0 q),(6,.p (.box F)),(7,.msl 1 1 0 2),(37,.p (.sl 1 (y6 [a0,a1]))),(38,i64 2),(8,i64 1),(39,i64 1),(44,bA a1),(45,i64 (bx a1).length),(46,i64 j)]⟩,[.row z5 1 (y6 B),.cells z5 [.msl 2 1 0 c,.msl 3 1 0 c],.row z4 1 (bx (v9 a0 B c q)),.row z4 1 (bx (v9 a1 B c (k+1)))]⟩ True (z7 (q8 (q7 hT ?_))) (fun _=>?_)
     ·refine⟨by omega,u7 hxp ?_⟩
      refine w9 [10] [] hT z8 (by rfl) ?_
      refine⟨by decide,?_⟩
      refine⟨⟨by omega,by omega⟩,?_⟩
      refine u7 hbp ?_
      refine⟨_,_,Q1 [3] w rfl rfl rfl,?_⟩
      repeat first|refine⟨rfl,?_⟩|refine⟨⟨by decide,rfl⟩,?_⟩|refine⟨⟨⟨by omega,by omega⟩,rfl⟩,?_⟩|refine⟨u7 hbp rfl,?_⟩
      exact⟨q9 [0,1,2,3] [0,1,6,7,37,38,8,39,44,45,46] rfl,trivial⟩
     ·refine q7 hT ?_
      exact⟨n2 - 1,by omega,_,q9 [0,1,2,3] [0,1,6,7,37,38,8,39,44,45,46] rfl,k+1,IntKind.i64.wrap (j+1),by omega,by rw[x9 _ (by omega) (by omega)];omega,rfl⟩
    ·have h:=of_decide_eq_false (show decide (j<(((bx a1).length:Nat):Int))=false from h)
     rw[show k=q by omega]
     refine u0 ?_
     exact⟨q9 [0,1,2,3] [0,1,6,7,37,38,8,39] rfl,trivial⟩
   ·refine q7 hT ?_
    exact⟨0,by decide,_,q9 [0,1,2,3] [0,1,6,7,37,38,39] rfl,(.inr (.inr ⟨rfl,rfl⟩))⟩
  ·refine q8 (q7 hT ?_)
   refine q8 (z6 ?_)
   refine u0 ?_
   exact⟨q9 [0,1,2,3] [7] rfl,trivial⟩
 refine Q8 (U9 2 1 0 c rfl rfl rfl (by rw[u6,hmk0])) ?_
 refine Q8 (U9 3 1 1 c rfl rfl rfl (by rw[u6,hmk1])) ?_
 refine Q8 (q1g 1 [bP (v9 a0 B c q),bP (v9 a1 B c q)] rfl rfl (show 2≤140737488355328 by decide)) ?_
 refine Q8 (q0s 7 1 _ rfl rfl rfl rfl) ?_
 refine q8 (q7 hT ?_)
 refine x6 ?_
 exact y9 [0] ⟨rfl,rfl⟩ rfl
set_option maxHeartbeats 4000000 in
set_option maxRecDepth 20000 in
theorem w9x (a0 a1 a2:y7)(B:List y7)(q c:Nat)(q1:1≤q)(q2:q≤64)(c1:1≤c)(c2:c≤4096)(hA:∀ s∈([a0,a1,a2]:List y7),s.length=q)(hB:B.length=q)(hBc:∀ s∈B,s.length=c) :
 AFm Tryz.prog 1 J7 [.p (.sl 1 (y6 [a0,a1,a2])),.msl 0 1 0 q] [.row z5 1 (y6 B)] (Q0 (.tup [.p (.sl 1 (y6 [v9 a0 B c q,v9 a1 B c q,v9 a2 B c q])),i64 0]) [.row z5 1 (y6 B)]):=by
 have wA:=J1 [a0,a1,a2] q (show 1≤3 by decide) (show 3≤64 by decide) q1 (by omega) hA
 have wB:=J1 B c (by omega) (by omega) c1 c2 hBc
 have wn:=q3e
 have hcl:=Z7 B
 have h0:=List.getElem?_eq_getElem (show 0<B.length by omega)
 have hc0:=hBc _ (List.getElem_mem (show 0<B.length by omega))
 generalize B[0]=b0 at h0 hc0
 have hx0:(y6 B)[0+(0:Int).toNat]?=some [bP b0]:=Z2 h0
 have hb0:=u6 b0
 have wf:=z2c q0p (bx b0).length (by omega) (fun _ _=>0) (fun i k _ _=>q3m i k)
 have ha0:a0.length=q:=hA a0 (by simp)
 have hx10:=u6 a0
 have ha1:a1.length=q:=hA a1 (by simp)
 have hx11:=u6 a1
 have ha2:a2.length=q:=hA a2 (by simp)
 have hx12:=u6 a2
 have hmk0:=Z4 (B:=B) a0 hBc (k:=q) (by omega)
 have hmk1:=Z4 (B:=B) a1 hBc (k:=q) (by omega)
 have hmk2:=Z4 (B:=B) a2 hBc (k:=q) (by omega)
 have wadd:=fun(to row:y7) (x:UInt8) (ht:to.length=c) (hr:row.length=c)=>q5q to row x (by omega) (by omega)
 unfold q2q at wn wadd
 generalize fP=F at wn wadd
 refine Q9 1 hT q3i rfl rfl q3j rfl rfl ?_
 refine q8 (q7 hT ?_)
 have lend:=z5u wB 0 (H:=[.row z5 1 (y6 B)]) (args:=[.msl 0 1 0 q]) (t:=z5) (sz:=1) (xs:=y6 B) rfl ⟨.inr (.inl ⟨congrArg (AV.msl 0 1 0) (show q=(y6 B).length by omega),rfl⟩),trivial⟩ rfl (fun k hk=>by simp at hk)
 refine y8 ⟨⟨65,[(0,.p (.sl 1 (y6 [a0,a1,a2]))),(1,.msl 0 1 0 q)]⟩,[.row z5 1 (y6 B)]⟩ True (q8 (q7 hT ?_)) (fun _=>?_)
 ·refine x8 (u5 wA _ rfl rfl) ?_
  refine x8 lend ?_
  refine⟨by decide,u7 rfl ?_⟩
  refine z6 (x7 (fun h=>?_) (fun h=>?_))
  ·have h:((((bx a0).length:Nat):Int) != ((q:Nat):Int))=true:=h
   rw[bne_iff_ne]at h
   omega
  exact z9 ⟨q9 [0] [0,1] rfl,trivial⟩
 refine q8 (q7 hT ?_)
 refine x8 (u5 wn _ rfl rfl) ?_
 refine w6 (fun st=>∃ c',c'=c∧st=⟨⟨65,[(0,.p (.sl 1 (y6 [a0,a1,a2]))),(1,.msl 0 1 0 q),(6,.p (.box F)),(7,.msl 1 1 0 3)]⟩,[.row z5 1 (y6 B),.cells z5 [.msl 2 1 0 c',.msl 3 1 0 c',.msl 4 1 0 c'],.row z4 1 (bx (Q3 (fun _ _=>0) c' 0)),.row z4 1 (bx (Q3 (fun _ _=>0) c' 1)),.row z4 1 (bx (Q3 (fun _ _=>0) c' 2))]⟩) (q7 hT ?_) ?_
 ·refine⟨⟨by decide,by omega⟩,?_⟩
  refine u7 hx0 ?_
  refine x8 (q1t wf _ rfl) ?_
  exact⟨_,q9 [0,1,2,3,4] [0,1,6,7] rfl,_,hb0.trans hc0,rfl⟩
 rintro _ ⟨c,rfl,rfl⟩
 clear wf
 refine y8 ⟨⟨65,[(7,.msl 1 1 0 3)]⟩,[.row z5 1 (y6 B),.cells z5 [.msl 2 1 0 c,.msl 3 1 0 c,.msl 4 1 0 c],.row z4 1 (bx (v9 a0 B c q)),.row z4 1 (bx (v9 a1 B c q)),.row z4 1 (bx (v9 a2 B c q))]⟩ True (q8 (q7 hT ?_)) (fun _=>?_)
 ·refine z7 ?_
  refine w7 (fun n s=>(n=3∧s=⟨⟨65,[(0,.p (.sl 1 (y6 [a0,a1,a2]))),(1,.msl 0 1 0 q),(6,.p (.box F)),(7,.msl 1 1 0 3),(37,.p (.sl 1 (y6 [a0,a1,a2]))),(38,i64 3),(39,i64 0)]⟩,[.row z5 1 (y6 B),.cells z5 [.msl 2 1 0 c,.msl 3 1 0 c,.msl 4 1 0 c],.row z4 1 (bx (v9 a0 B c 0)),.row z4 1 (bx (v9 a1 B c 0)),.row z4 1 (bx (v9 a2 B c 0))]⟩)∨(n=2∧s=⟨⟨65,[(0,.p (.sl 1 (y6 [a0,a1,a2]))),(1,.msl 0 1 0 q),(6,.p (.box F)),(7,.msl 1 1 0 3),(37,.p (.sl 1 (y6 [a0,a1,a2]))),(38,i64 3),(39,i64 1)]⟩,[.row z5 1 (y6 B),.cells z5 [.msl 2 1 0 c,.msl 3 1 0 c,.msl 4 1 0 c],.row z4 1 (bx (v9 a0 B c q)),.row z4 1 (bx (v9 a1 B c 0)),.row z4 1 (bx (v9 a2 B c 0))]⟩)∨(n=1∧s=⟨⟨65,[(0,.p (.sl 1 (y6 [a0,a1,a2]))),(1,.msl 0 1 0 q),(6,.p (.box F)),(7,.msl 1 1 0 3),(37,.p (.sl 1 (y6 [a0,a1,a2]))),(38,i64 3),(39,i64 2)]⟩,[.row z5 1 (y6 B),.cells z5 [.msl 2 1 0 c,.msl 3 1 0 c,.msl 4 1 0 c],.row z4 1 (bx (v9 a0 B c q)),.row z4 1 (bx (v9 a1 B c q)),.row z4 1 (bx (v9 a2 B c 0))]⟩)∨(n=0∧s=⟨⟨65,[(0,.p (.sl 1 (y6 [a0,a1,a2]))),(1,.msl 0 1 0 q),(6,.p (.box F)),(7,.msl 1 1 0 3),(37,.p (.sl 1 (y6 [a0,a1,a2]))),(38,i64 3),(39,i64 3)]⟩,[.row z5 1 (y6 B),.cells z5 [.msl 2 1 0 c,.msl 3 1 0 c,.msl 4 1 0 c],.row z4 1 (bx (v9 a0 B c q)),.row z4 1 (bx (v9 a1 B c q)),.row z4 1 (bx (v9 a2 B c q))]⟩)) 3 ⟨⟨65,_⟩,_⟩ (q9 [0,1,2,3,4] [0,1,6,7,37,38,39] rfl) (.inl ⟨rfl,by rw[q3n a0 B c 0,q3n a1 B c 1,q3n a2 B c 2];rfl⟩) ?_
  rintro n s (⟨rfl,rfl⟩|⟨rfl,rfl⟩|⟨rfl,rfl⟩|⟨rfl,rfl⟩)
  ·refine q8 (q7 hT ?_)
   refine q8 (z6 ?_)
   refine z9 ?_
   refine y8 ⟨⟨65,[(0,.p (.sl 1 (y6 [a0,a1,a2]))),(1,.msl 0 1 0 q),(6,.p (.box F)),(7,.msl 1 1 0 3),(37,.p (.sl 1 (y6 [a0,a1,a2]))),(38,i64 3),(8,i64 0),(39,i64 0)]⟩,[.row z5 1 (y6 B),.cells z5 [.msl 2 1 0 c,.msl 3 1 0 c,.msl 4 1 0 c],.row z4 1 (bx (v9 a0 B c q)),.row z4 1 (bx (v9 a1 B c 0)),.row z4 1 (bx (v9 a2 B c 0))]⟩ True (z7 ?_) (fun _=>?_)
   ·refine q8 (q7 hT ?_)
    refine⟨by decide,u7 rfl ?_⟩
    refine q8 (q7 hT ?_)
    refine z7 ?_
    refine w7 (fun n s=>∃ (k:Nat) (j:Int),n+k=q∧j=k∧s=⟨⟨65,[(0,.p (.sl 1 (y6 [a0,a1,a2]))),(1,.msl 0 1 0 q),(6,.p (.box F)),(7,.msl 1 1 0 3),(37,.p (.sl 1 (y6 [a0,a1,a2]))),(38,i64 3),(8,i64 0),(39,i64 0),(44,bA a0),(45,i64 (bx a0).length),(46,i64 j)]⟩,[.row z5 1 (y6 B),.cells z5 [.msl 2 1 0 c,.msl 3 1 0 c,.msl 4 1 0 c],.row z4 1 (bx (v9 a0 B c k)),.row z4 1 (bx (v9 a1 B c 0)),.row z4 1 (bx (v9 a2 B c 0))]⟩) q ⟨⟨65,_⟩,_⟩ (q9 [0,1,2,3,4] [0,1,6,7,37,38,8,39,44,45,46] rfl) ⟨0,0,by omega,rfl,rfl⟩ ?_
    rintro n2 s ⟨k,j,hnk,hj,rfl⟩
    refine q8 (q7 hT ?_)
    refine q8 (z6 (x7 (fun h=>?_) (fun h=>?_)))
    ·have h:=of_decide_eq_true (show decide (j<(((bx a0).length:Nat):Int))=true from h)
     have hk:k<a0.length:=by omega
     have hkB:k<B.length:=by omega
     refine z9 ?_
     have hxa:=List.getElem?_eq_getElem hk
     have hxb:=List.getElem?_eq_getElem hkB
     have hst:=W7 c hxa hxb
     have hlb:=hBc _ (List.getElem_mem hkB)
     generalize a0[k]=x at hxa hst
     generalize B[k]=b at hxb hst hlb
     have hxp:(bx a0)[j.toNat]?=some [u8 x]:=by rw[hj,Int.toNat_natCast];exact Q7 hxa
     have hbp:(y6 B)[0+j.toNat]?=some [bP b]:=by rw[hj,Int.toNat_natCast,Nat.zero_add];exact Z2 hxb
     have hml:=Z4 (B:=B) a0 hBc (k:=k) (by omega)
     have w:=wadd (v9 a0 B c k) b x hml hlb
     rw[hml,← hst]at w
     refine y8 ⟨⟨65,[(0,.p (.sl 1 (y6 [a0,a1,a2]))),(1,.msl 0 1 0 q),(6,.p (.box F)),(7,.msl 1 1 0 3),(37,.p (.sl 1 (y6 [a0,a1,a2]))),(38,i64 3),(8,i64 0),(39,i64 0),(44,bA a0),(45,i64 (bx a0).length),(46,i64 j)]⟩,[.row z5 1 (y6 B),.cells z5 [.msl 2 1 0 c,.msl 3 1 0 c,.msl 4 1 0 c],.row z4 1 (bx (v9 a0 B c (k+1))),.row z4 1 (bx (v9 a1 B c 0)),.row z4 1 (bx (v9 a2 B c 0))]⟩ True (z7 (q8 (q7 hT ?_))) (fun _=>?_)
     ·refine⟨by omega,u7 hxp ?_⟩
      refine w9 [10] [] hT z8 (by rfl) ?_
      refine⟨by decide,?_⟩
      refine⟨⟨by omega,by omega⟩,?_⟩
      refine u7 hbp ?_
      refine⟨_,_,Q1 [2] w rfl rfl rfl,?_⟩
      repeat first|refine⟨rfl,?_⟩|refine⟨⟨by decide,rfl⟩,?_⟩|refine⟨⟨⟨by omega,by omega⟩,rfl⟩,?_⟩|refine⟨u7 hbp rfl,?_⟩
      exact⟨q9 [0,1,2,3,4] [0,1,6,7,37,38,8,39,44,45,46] rfl,trivial⟩
     ·refine q7 hT ?_
      exact⟨n2 - 1,by omega,_,q9 [0,1,2,3,4] [0,1,6,7,37,38,8,39,44,45,46] rfl,k+1,IntKind.i64.wrap (j+1),by omega,by rw[x9 _ (by omega) (by omega)];omega,rfl⟩
    ·have h:=of_decide_eq_false (show decide (j<(((bx a0).length:Nat):Int))=false from h)
     rw[show k=q by omega]
     refine u0 ?_
     exact⟨q9 [0,1,2,3,4] [0,1,6,7,37,38,8,39] rfl,trivial⟩
   ·refine q7 hT ?_
    exact⟨2,by decide,_,q9 [0,1,2,3,4] [0,1,6,7,37,38,39] rfl,(.inr (.inl ⟨rfl,rfl⟩))⟩
  ·refine q8 (q7 hT ?_)
   refine q8 (z6 ?_)
   refine z9 ?_
   refine y8 ⟨⟨65,[(0,.p (.sl 1 (y6 [a0,a1,a2]))),(1,.msl 0 1 0 q),(6,.p (.box F)),(7,.msl 1 1 0 3),(37,.p (.sl 1 (y6 [a0,a1,a2]))),(38,i64 3),(8,i64 1),(39,i64 1)]⟩,[.row z5 1 (y6 B),.cells z5 [.msl 2 1 0 c,.msl 3 1 0 c,.msl 4 1 0 c],.row z4 1 (bx (v9 a0 B c q)),.row z4 1 (bx (v9 a1 B c q)),.row z4 1 (bx (v9 a2 B c 0))]⟩ True (z7 ?_) (fun _=>?_)
   ·refine q8 (q7 hT ?_)
    refine⟨by decide,u7 rfl ?_⟩
    refine q8 (q7 hT ?_)
    refine z7 ?_
    refine w7 (fun n s=>∃ (k:Nat) (j:Int),n+k=q∧j=k∧s=⟨⟨65,[(0,.p (.sl 1 (y6 [a0,a1,a2]))),(1,.msl 0 1 0 q),(6,.p (.box F)),(7,.msl 1 1 0 3),(37,.p (.sl 1 (y6 [a0,a1,a2]))),(38,i64 3),(8,i64 1),(39,i64 1),(44,bA a1),(45,i64 (bx a1).length),(46,i64 j)]⟩,[.row z5 1 (y6 B),.cells z5 [.msl 2 1 0 c,.msl 3 1 0 c,.msl 4 1 0 c],.row z4 1 (bx (v9 a0 B c q)),.row z4 1 (bx (v9 a1 B c k)),.row z4 1 (bx (v9 a2 B c 0))]⟩) q ⟨⟨65,_⟩,_⟩ (q9 [0,1,2,3,4] [0,1,6,7,37,38,8,39,44,45,46] rfl) ⟨0,0,by omega,rfl,rfl⟩ ?_
    rintro n2 s ⟨k,j,hnk,hj,rfl⟩
    refine q8 (q7 hT ?_)
    refine q8 (z6 (x7 (fun h=>?_) (fun h=>?_)))
    ·have h:=of_decide_eq_true (show decide (j<(((bx a1).length:Nat):Int))=true from h)
     have hk:k<a1.length:=by omega
     have hkB:k<B.length:=by omega
     refine z9 ?_
     have hxa:=List.getElem?_eq_getElem hk
     have hxb:=List.getElem?_eq_getElem hkB
     have hst:=W7 c hxa hxb
     have hlb:=hBc _ (List.getElem_mem hkB)
     generalize a1[k]=x at hxa hst
     generalize B[k]=b at hxb hst hlb
     have hxp:(bx a1)[j.toNat]?=some [u8 x]:=by rw[hj,Int.toNat_natCast];exact Q7 hxa
     have hbp:(y6 B)[0+j.toNat]?=some [bP b]:=by rw[hj,Int.toNat_natCast,Nat.zero_add];exact Z2 hxb
     have hml:=Z4 (B:=B) a1 hBc (k:=k) (by omega)
     have w:=wadd (v9 a1 B c k) b x hml hlb
     rw[hml,← hst]at w
     refine y8 ⟨⟨65,[(0,.p (.sl 1 (y6 [a0,a1,a2]))),(1,.msl 0 1 0 q),(6,.p (.box F)),(7,.msl 1 1 0 3),(37,.p (.sl 1 (y6 [a0,a1,a2]))),(38,i64 3),(8,i64 1),(39,i64 1),(44,bA a1),(45,i64 (bx a1).length),(46,i64 j)]⟩,[.row z5 1 (y6 B),.cells z5 [.msl 2 1 0 c,.msl 3 1 0 c,.msl 4 1 0 c],.row z4 1 (bx (v9 a0 B c q)),.row z4 1 (bx (v9 a1 B c (k+1))),.row z4 1 (bx (v9 a2 B c 0))]⟩ True (z7 (q8 (q7 hT ?_))) (fun _=>?_)
     ·refine⟨by omega,u7 hxp ?_⟩
      refine w9 [10] [] hT z8 (by rfl) ?_
      refine⟨by decide,?_⟩
      refine⟨⟨by omega,by omega⟩,?_⟩
      refine u7 hbp ?_
      refine⟨_,_,Q1 [3] w rfl rfl rfl,?_⟩
      repeat first|refine⟨rfl,?_⟩|refine⟨⟨by decide,rfl⟩,?_⟩|refine⟨⟨⟨by omega,by omega⟩,rfl⟩,?_⟩|refine⟨u7 hbp rfl,?_⟩
      exact⟨q9 [0,1,2,3,4] [0,1,6,7,37,38,8,39,44,45,46] rfl,trivial⟩
     ·refine q7 hT ?_
      exact⟨n2 - 1,by omega,_,q9 [0,1,2,3,4] [0,1,6,7,37,38,8,39,44,45,46] rfl,k+1,IntKind.i64.wrap (j+1),by omega,by rw[x9 _ (by omega) (by omega)];omega,rfl⟩
    ·have h:=of_decide_eq_false (show decide (j<(((bx a1).length:Nat):Int))=false from h)
     rw[show k=q by omega]
     refine u0 ?_
     exact⟨q9 [0,1,2,3,4] [0,1,6,7,37,38,8,39] rfl,trivial⟩
   ·refine q7 hT ?_
    exact⟨1,by decide,_,q9 [0,1,2,3,4] [0,1,6,7,37,38,39] rfl,(.inr (.inr (.inl ⟨rfl,rfl⟩)))⟩
  ·refine q8 (q7 hT ?_)
   refine q8 (z6 ?_)
   refine z9 ?_
   refine y8 ⟨⟨65,[(0,.p (.sl 1 (y6 [a0,a1,a2]))),(1,.msl 0 1 0 q),(6,.p (.box F)),(7,.msl 1 1 0 3),(37,.p (.sl 1 (y6 [a0,a1,a2]))),(38,i64 3),(8,i64 2),(39,i64 2)]⟩,[.row z5 1 (y6 B),.cells z5 [.msl 2 1 0 c,.msl 3 1 0 c,.msl 4 1 0 c],.row z4 1 (bx (v9 a0 B c q)),.row z4 1 (bx (v9 a1 B c q)),.row z4 1 (bx (v9 a2 B c q))]⟩ True (z7 ?_) (fun _=>?_)
   ·refine q8 (q7 hT ?_)
    refine⟨by decide,u7 rfl ?_⟩
    refine q8 (q7 hT ?_)
    refine z7 ?_
    refine w7 (fun n s=>∃ (k:Nat) (j:Int),n+k=q∧j=k∧s=⟨⟨65,[(0,.p (.sl 1 (y6 [a0,a1,a2]))),(1,.msl 0 1 0 q),(6,.p (.box F)),(7,.msl 1 1 0 3),(37,.p (.sl 1 (y6 [a0,a1,a2]))),(38,i64 3),(8,i64 2),(39,i64 2),(44,bA a2),(45,i64 (bx a2).length),(46,i64 j)]⟩,[.row z5 1 (y6 B),.cells z5 [.msl 2 1 0 c,.msl 3 1 0 c,.msl 4 1 0 c],.row z4 1 (bx (v9 a0 B c q)),.row z4 1 (bx (v9 a1 B c q)),.row z4 1 (bx (v9 a2 B c k))]⟩) q ⟨⟨65,_⟩,_⟩ (q9 [0,1,2,3,4] [0,1,6,7,37,38,8,39,44,45,46] rfl) ⟨0,0,by omega,rfl,rfl⟩ ?_
    rintro n2 s ⟨k,j,hnk,hj,rfl⟩
    refine q8 (q7 hT ?_)
    refine q8 (z6 (x7 (fun h=>?_) (fun h=>?_)))
    ·have h:=of_decide_eq_true (show decide (j<(((bx a2).length:Nat):Int))=true from h)
     have hk:k<a2.length:=by omega
     have hkB:k<B.length:=by omega
     refine z9 ?_
     have hxa:=List.getElem?_eq_getElem hk
     have hxb:=List.getElem?_eq_getElem hkB
     have hst:=W7 c hxa hxb
     have hlb:=hBc _ (List.getElem_mem hkB)
     generalize a2[k]=x at hxa hst
     generalize B[k]=b at hxb hst hlb
     have hxp:(bx a2)[j.toNat]?=some [u8 x]:=by rw[hj,Int.toNat_natCast];exact Q7 hxa
     have hbp:(y6 B)[0+j.toNat]?=some [bP b]:=by rw[hj,Int.toNat_natCast,Nat.zero_add];exact Z2 hxb
     have hml:=Z4 (B:=B) a2 hBc (k:=k) (by omega)
     have w:=wadd (v9 a2 B c k) b x hml hlb
     rw[hml,← hst]at w
     refine y8 ⟨⟨65,[(0,.p (.sl 1 (y6 [a0,a1,a2]))),(1,.msl 0 1 0 q),(6,.p (.box F)),(7,.msl 1 1 0 3),(37,.p (.sl 1 (y6 [a0,a1,a2]))),(38,i64 3),(8,i64 2),(39,i64 2),(44,bA a2),(45,i64 (bx a2).length),(46,i64 j)]⟩,[.row z5 1 (y6 B),.cells z5 [.msl 2 1 0 c,.msl 3 1 0 c,.msl 4 1 0 c],.row z4 1 (bx (v9 a0 B c q)),.row z4 1 (bx (v9 a1 B c q)),.row z4 1 (bx (v9 a2 B c (k+1)))]⟩ True (z7 (q8 (q7 hT ?_))) (fun _=>?_)
     ·refine⟨by omega,u7 hxp ?_⟩
      refine w9 [10] [] hT z8 (by rfl) ?_
      refine⟨by decide,?_⟩
      refine⟨⟨by omega,by omega⟩,?_⟩
      refine u7 hbp ?_
      refine⟨_,_,Q1 [4] w rfl rfl rfl,?_⟩
      repeat first|refine⟨rfl,?_⟩|refine⟨⟨by decide,rfl⟩,?_⟩|refine⟨⟨⟨by omega,by omega⟩,rfl⟩,?_⟩|refine⟨u7 hbp rfl,?_⟩
      exact⟨q9 [0,1,2,3,4] [0,1,6,7,37,38,8,39,44,45,46] rfl,trivial⟩
     ·refine q7 hT ?_
      exact⟨n2 - 1,by omega,_,q9 [0,1,2,3,4] [0,1,6,7,37,38,8,39,44,45,46] rfl,k+1,IntKind.i64.wrap (j+1),by omega,by rw[x9 _ (by omega) (by omega)];omega,rfl⟩
    ·have h:=of_decide_eq_false (show decide (j<(((bx a2).length:Nat):Int))=false from h)
     rw[show k=q by omega]
     refine u0 ?_
     exact⟨q9 [0,1,2,3,4] [0,1,6,7,37,38,8,39] rfl,trivial⟩
   ·refine q7 hT ?_
    exact⟨0,by decide,_,q9 [0,1,2,3,4] [0,1,6,7,37,38,39] rfl,(.inr (.inr (.inr ⟨rfl,rfl⟩)))⟩
  ·refine q8 (q7 hT ?_)
   refine q8 (z6 ?_)
   refine u0 ?_
   exact⟨q9 [0,1,2,3,4] [7] rfl,trivial⟩
 refine Q8 (U9 2 1 0 c rfl rfl rfl (by rw[u6,hmk0])) ?_
 refine Q8 (U9 3 1 1 c rfl rfl rfl (by rw[u6,hmk1])) ?_
 refine Q8 (U9 4 1 2 c rfl rfl rfl (by rw[u6,hmk2])) ?_
 refine Q8 (q1g 1 [bP (v9 a0 B c q),bP (v9 a1 B c q),bP (v9 a2 B c q)] rfl rfl (show 3≤140737488355328 by decide)) ?_
 refine Q8 (q0s 7 1 _ rfl rfl rfl rfl) ?_
 refine q8 (q7 hT ?_)
 refine x6 ?_
 exact y9 [0] ⟨rfl,rfl⟩ rfl
set_option maxHeartbeats 4000000 in
set_option maxRecDepth 20000 in
theorem w9y (a0 a1 a2 a3:y7)(B:List y7)(q c:Nat)(q1:1≤q)(q2:q≤64)(c1:1≤c)(c2:c≤4096)(hA:∀ s∈([a0,a1,a2,a3]:List y7),s.length=q)(hB:B.length=q)(hBc:∀ s∈B,s.length=c) :
 AFm Tryz.prog 1 J7 [.p (.sl 1 (y6 [a0,a1,a2,a3])),.msl 0 1 0 q] [.row z5 1 (y6 B)] (Q0 (.tup [.p (.sl 1 (y6 [v9 a0 B c q,v9 a1 B c q,v9 a2 B c q,v9 a3 B c q])),i64 0]) [.row z5 1 (y6 B)]):=by
 have wA:=J1 [a0,a1,a2,a3] q (show 1≤4 by decide) (show 4≤64 by decide) q1 (by omega) hA
 have wB:=J1 B c (by omega) (by omega) c1 c2 hBc
 have wn:=q3e
 have hcl:=Z7 B
 have h0:=List.getElem?_eq_getElem (show 0<B.length by omega)
 have hc0:=hBc _ (List.getElem_mem (show 0<B.length by omega))
 generalize B[0]=b0 at h0 hc0
 have hx0:(y6 B)[0+(0:Int).toNat]?=some [bP b0]:=Z2 h0
 have hb0:=u6 b0
 have wf:=z2d q0p (bx b0).length (by omega) (fun _ _=>0) (fun i k _ _=>q3m i k)
 have ha0:a0.length=q:=hA a0 (by simp)
 have hx10:=u6 a0
 have ha1:a1.length=q:=hA a1 (by simp)
 have hx11:=u6 a1
 have ha2:a2.length=q:=hA a2 (by simp)
 have hx12:=u6 a2
 have ha3:a3.length=q:=hA a3 (by simp)
 have hx13:=u6 a3
 have hmk0:=Z4 (B:=B) a0 hBc (k:=q) (by omega)
 have hmk1:=Z4 (B:=B) a1 hBc (k:=q) (by omega)
 have hmk2:=Z4 (B:=B) a2 hBc (k:=q) (by omega)
 have hmk3:=Z4 (B:=B) a3 hBc (k:=q) (by omega)
 have wadd:=fun(to row:y7) (x:UInt8) (ht:to.length=c) (hr:row.length=c)=>q5q to row x (by omega) (by omega)
 unfold q2q at wn wadd
 generalize fP=F at wn wadd
 refine Q9 1 hT q3i rfl rfl q3j rfl rfl ?_
 refine q8 (q7 hT ?_)
 have lend:=z5u wB 0 (H:=[.row z5 1 (y6 B)]) (args:=[.msl 0 1 0 q]) (t:=z5) (sz:=1) (xs:=y6 B) rfl ⟨.inr (.inl ⟨congrArg (AV.msl 0 1 0) (show q=(y6 B).length by omega),rfl⟩),trivial⟩ rfl (fun k hk=>by simp at hk)
 refine y8 ⟨⟨65,[(0,.p (.sl 1 (y6 [a0,a1,a2,a3]))),(1,.msl 0 1 0 q)]⟩,[.row z5 1 (y6 B)]⟩ True (q8 (q7 hT ?_)) (fun _=>?_)
 ·refine x8 (u5 wA _ rfl rfl) ?_
  refine x8 lend ?_
  refine⟨by decide,u7 rfl ?_⟩
  refine z6 (x7 (fun h=>?_) (fun h=>?_))
  ·have h:((((bx a0).length:Nat):Int) != ((q:Nat):Int))=true:=h
   rw[bne_iff_ne]at h
   omega
  exact z9 ⟨q9 [0] [0,1] rfl,trivial⟩
 refine q8 (q7 hT ?_)
 refine x8 (u5 wn _ rfl rfl) ?_
 refine w6 (fun st=>∃ c',c'=c∧st=⟨⟨65,[(0,.p (.sl 1 (y6 [a0,a1,a2,a3]))),(1,.msl 0 1 0 q),(6,.p (.box F)),(7,.msl 1 1 0 4)]⟩,[.row z5 1 (y6 B),.cells z5 [.msl 2 1 0 c',.msl 3 1 0 c',.msl 4 1 0 c',.msl 5 1 0 c'],.row z4 1 (bx (Q3 (fun _ _=>0) c' 0)),.row z4 1 (bx (Q3 (fun _ _=>0) c' 1)),.row z4 1 (bx (Q3 (fun _ _=>0) c' 2)),.row z4 1 (bx (Q3 (fun _ _=>0) c' 3))]⟩) (q7 hT ?_) ?_
 ·refine⟨⟨by decide,by omega⟩,?_⟩
  refine u7 hx0 ?_
  refine x8 (q1t wf _ rfl) ?_
  exact⟨_,q9 [0,1,2,3,4,5] [0,1,6,7] rfl,_,hb0.trans hc0,rfl⟩
 rintro _ ⟨c,rfl,rfl⟩
 clear wf
 refine y8 ⟨⟨65,[(7,.msl 1 1 0 4)]⟩,[.row z5 1 (y6 B),.cells z5 [.msl 2 1 0 c,.msl 3 1 0 c,.msl 4 1 0 c,.msl 5 1 0 c],.row z4 1 (bx (v9 a0 B c q)),.row z4 1 (bx (v9 a1 B c q)),.row z4 1 (bx (v9 a2 B c q)),.row z4 1 (bx (v9 a3 B c q))]⟩ True (q8 (q7 hT ?_)) (fun _=>?_)
 ·refine z7 ?_
  refine w7 (fun n s=>(n=4∧s=⟨⟨65,[(0,.p (.sl 1 (y6 [a0,a1,a2,a3]))),(1,.msl 0 1 0 q),(6,.p (.box F)),(7,.msl 1 1 0 4),(37,.p (.sl 1 (y6 [a0,a1,a2,a3]))),(38,i64 4),(39,i64 0)]⟩,[.row z5 1 (y6 B),.cells z5 [.msl 2 1 0 c,.msl 3 1 0 c,.msl 4 1 0 c,.msl 5 1 0 c],.row z4 1 (bx (v9 a0 B c 0)),.row z4 1 (bx (v9 a1 B c 0)),.row z4 1 (bx (v9 a2 B c 0)),.row z4 1 (bx (v9 a3 B c 0))]⟩)∨(n=3∧s=⟨⟨65,[(0,.p (.sl 1 (y6 [a0,a1,a2,a3]))),(1,.msl 0 1 0 q),(6,.p (.box F)),(7,.msl 1 1 0 4),(37,.p (.sl 1 (y6 [a0,a1,a2,a3]))),(38,i64 4),(39,i64 1)]⟩,[.row z5 1 (y6 B),.cells z5 [.msl 2 1 0 c,.msl 3 1 0 c,.msl 4 1 0 c,.msl 5 1 0 c],.row z4 1 (bx (v9 a0 B c q)),.row z4 1 (bx (v9 a1 B c 0)),.row z4 1 (bx (v9 a2 B c 0)),.row z4 1 (bx (v9 a3 B c 0))]⟩)∨(n=2∧s=⟨⟨65,[(0,.p (.sl 1 (y6 [a0,a1,a2,a3]))),(1,.msl 0 1 0 q),(6,.p (.box F)),(7,.msl 1 1 0 4),(37,.p (.sl 1 (y6 [a0,a1,a2,a3]))),(38,i64 4),(39,i64 2)]⟩,[.row z5 1 (y6 B),.cells z5 [.msl 2 1 0 c,.msl 3 1 0 c,.msl 4 1 0 c,.msl 5 1 0 c],.row z4 1 (bx (v9 a0 B c q)),.row z4 1 (bx (v9 a1 B c q)),.row z4 1 (bx (v9 a2 B c 0)),.row z4 1 (bx (v9 a3 B c 0))]⟩)∨(n=1∧s=⟨⟨65,[(0,.p (.sl 1 (y6 [a0,a1,a2,a3]))),(1,.msl 0 1 0 q),(6,.p (.box F)),(7,.msl 1 1 0 4),(37,.p (.sl 1 (y6 [a0,a1,a2,a3]))),(38,i64 4),(39,i64 3)]⟩,[.row z5 1 (y6 B),.cells z5 [.msl 2 1 0 c,.msl 3 1 0 c,.msl 4 1 0 c,.msl 5 1 0 c],.row z4 1 (bx (v9 a0 B c q)),.row z4 1 (bx (v9 a1 B c q)),.row z4 1 (bx (v9 a2 B c q)),.row z4 1 (bx (v9 a3 B c 0))]⟩)∨(n=0∧s=⟨⟨65,[(0,.p (.sl 1 (y6 [a0,a1,a2,a3]))),(1,.msl 0 1 0 q),(6,.p (.box F)),(7,.msl 1 1 0 4),(37,.p (.sl 1 (y6 [a0,a1,a2,a3]))),(38,i64 4),(39,i64 4)]⟩,[.row z5 1 (y6 B),.cells z5 [.msl 2 1 0 c,.msl 3 1 0 c,.msl 4 1 0 c,.msl 5 1 0 c],.row z4 1 (bx (v9 a0 B c q)),.row z4 1 (bx (v9 a1 B c q)),.row z4 1 (bx (v9 a2 B c q)),.row z4 1 (bx (v9 a3 B c q))]⟩)) 4 ⟨⟨65,_⟩,_⟩ (q9 [0,1,2,3,4,5] [0,1,6,7,37,38,39] rfl) (.inl ⟨rfl,by rw[q3n a0 B c 0,q3n a1 B c 1,q3n a2 B c 2,q3n a3 B c 3];rfl⟩) ?_
  rintro n s (⟨rfl,rfl⟩|⟨rfl,rfl⟩|⟨rfl,rfl⟩|⟨rfl,rfl⟩|⟨rfl,rfl⟩)
  ·refine q8 (q7 hT ?_)
   refine q8 (z6 ?_)
   refine z9 ?_
   refine y8 ⟨⟨65,[(0,.p (.sl 1 (y6 [a0,a1,a2,a3]))),(1,.msl 0 1 0 q),(6,.p (.box F)),(7,.msl 1 1 0 4),(37,.p (.sl 1 (y6 [a0,a1,a2,a3]))),(38,i64 4),(8,i64 0),(39,i64 0)]⟩,[.row z5 1 (y6 B),.cells z5 [.msl 2 1 0 c,.msl 3 1 0 c,.msl 4 1 0 c,.msl 5 1 0 c],.row z4 1 (bx (v9 a0 B c q)),.row z4 1 (bx (v9 a1 B c 0)),.row z4 1 (bx (v9 a2 B c 0)),.row z4 1 (bx (v9 a3 B c 0))]⟩ True (z7 ?_) (fun _=>?_)
   ·refine q8 (q7 hT ?_)
    refine⟨by decide,u7 rfl ?_⟩
    refine q8 (q7 hT ?_)
    refine z7 ?_
    refine w7 (fun n s=>∃ (k:Nat) (j:Int),n+k=q∧j=k∧s=⟨⟨65,[(0,.p (.sl 1 (y6 [a0,a1,a2,a3]))),(1,.msl 0 1 0 q),(6,.p (.box F)),(7,.msl 1 1 0 4),(37,.p (.sl 1 (y6 [a0,a1,a2,a3]))),(38,i64 4),(8,i64 0),(39,i64 0),(44,bA a0),(45,i64 (bx a0).length),(46,i64 j)]⟩,[.row z5 1 (y6 B),.cells z5 [.msl 2 1 0 c,.msl 3 1 0 c,.msl 4 1 0 c,.msl 5 1 0 c],.row z4 1 (bx (v9 a0 B c k)),.row z4 1 (bx (v9 a1 B c 0)),.row z4 1 (bx (v9 a2 B c 0)),.row z4 1 (bx (v9 a3 B c 0))]⟩) q ⟨⟨65,_⟩,_⟩ (q9 [0,1,2,3,4,5] [0,1,6,7,37,38,8,39,44,45,46] rfl) ⟨0,0,by omega,rfl,rfl⟩ ?_
    rintro n2 s ⟨k,j,hnk,hj,rfl⟩
    refine q8 (q7 hT ?_)
    refine q8 (z6 (x7 (fun h=>?_) (fun h=>?_)))
    ·have h:=of_decide_eq_true (show decide (j<(((bx a0).length:Nat):Int))=true from h)
     have hk:k<a0.length:=by omega
     have hkB:k<B.length:=by omega
     refine z9 ?_
     have hxa:=List.getElem?_eq_getElem hk
     have hxb:=List.getElem?_eq_getElem hkB
     have hst:=W7 c hxa hxb
     have hlb:=hBc _ (List.getElem_mem hkB)
     generalize a0[k]=x at hxa hst
     generalize B[k]=b at hxb hst hlb
     have hxp:(bx a0)[j.toNat]?=some [u8 x]:=by rw[hj,Int.toNat_natCast];exact Q7 hxa
     have hbp:(y6 B)[0+j.toNat]?=some [bP b]:=by rw[hj,Int.toNat_natCast,Nat.zero_add];exact Z2 hxb
     have hml:=Z4 (B:=B) a0 hBc (k:=k) (by omega)
     have w:=wadd (v9 a0 B c k) b x hml hlb
     rw[hml,← hst]at w
     refine y8 ⟨⟨65,[(0,.p (.sl 1 (y6 [a0,a1,a2,a3]))),(1,.msl 0 1 0 q),(6,.p (.box F)),(7,.msl 1 1 0 4),(37,.p (.sl 1 (y6 [a0,a1,a2,a3]))),(38,i64 4),(8,i64 0),(39,i64 0),(44,bA a0),(45,i64 (bx a0).length),(46,i64 j)]⟩,[.row z5 1 (y6 B),.cells z5 [.msl 2 1 0 c,.msl 3 1 0 c,.msl 4 1 0 c,.msl 5 1 0 c],.row z4 1 (bx (v9 a0 B c (k+1))),.row z4 1 (bx (v9 a1 B c 0)),.row z4 1 (bx (v9 a2 B c 0)),.row z4 1 (bx (v9 a3 B c 0))]⟩ True (z7 (q8 (q7 hT ?_))) (fun _=>?_)
     ·refine⟨by omega,u7 hxp ?_⟩
      refine w9 [10] [] hT z8 (by rfl) ?_
      refine⟨by decide,?_⟩
      refine⟨⟨by omega,by omega⟩,?_⟩
      refine u7 hbp ?_
      refine⟨_,_,Q1 [2] w rfl rfl rfl,?_⟩
      repeat first|refine⟨rfl,?_⟩|refine⟨⟨by decide,rfl⟩,?_⟩|refine⟨⟨⟨by omega,by omega⟩,rfl⟩,?_⟩|refine⟨u7 hbp rfl,?_⟩
      exact⟨q9 [0,1,2,3,4,5] [0,1,6,7,37,38,8,39,44,45,46] rfl,trivial⟩
     ·refine q7 hT ?_
      exact⟨n2 - 1,by omega,_,q9 [0,1,2,3,4,5] [0,1,6,7,37,38,8,39,44,45,46] rfl,k+1,IntKind.i64.wrap (j+1),by omega,by rw[x9 _ (by omega) (by omega)];omega,rfl⟩
    ·have h:=of_decide_eq_false (show decide (j<(((bx a0).length:Nat):Int))=false from h)
     rw[show k=q by omega]
     refine u0 ?_
     exact⟨q9 [0,1,2,3,4,5] [0,1,6,7,37,38,8,39] rfl,trivial⟩
   ·refine q7 hT ?_
    exact⟨3,by decide,_,q9 [0,1,2,3,4,5] [0,1,6,7,37,38,39] rfl,(.inr (.inl ⟨rfl,rfl⟩))⟩
  ·refine q8 (q7 hT ?_)
   refine q8 (z6 ?_)
   refine z9 ?_
   refine y8 ⟨⟨65,[(0,.p (.sl 1 (y6 [a0,a1,a2,a3]))),(1,.msl 0 1 0 q),(6,.p (.box F)),(7,.msl 1 1 0 4),(37,.p (.sl 1 (y6 [a0,a1,a2,a3]))),(38,i64 4),(8,i64 1),(39,i64 1)]⟩,[.row z5 1 (y6 B),.cells z5 [.msl 2 1 0 c,.msl 3 1 0 c,.msl 4 1 0 c,.msl 5 1 0 c],.row z4 1 (bx (v9 a0 B c q)),.row z4 1 (bx (v9 a1 B c q)),.row z4 1 (bx (v9 a2 B c 0)),.row z4 1 (bx (v9 a3 B c 0))]⟩ True (z7 ?_) (fun _=>?_)
   ·refine q8 (q7 hT ?_)
    refine⟨by decide,u7 rfl ?_⟩
    refine q8 (q7 hT ?_)
    refine z7 ?_
    refine w7 (fun n s=>∃ (k:Nat) (j:Int),n+k=q∧j=k∧s=⟨⟨65,[(0,.p (.sl 1 (y6 [a0,a1,a2,a3]))),(1,.msl 0 1 0 q),(6,.p (.box F)),(7,.msl 1 1 0 4),(37,.p (.sl 1 (y6 [a0,a1,a2,a3]))),(38,i64 4),(8,i64 1),(39,i64 1),(44,bA a1),(45,i64 (bx a1).length),(46,i64 j)]⟩,[.row z5 1 (y6 B),.cells z5 [.msl 2 1 0 c,.msl 3 1 0 c,.msl 4 1 0 c,.msl 5 1 0 c],.row z4 1 (bx (v9 a0 B c q)),.row z4 1 (bx (v9 a1 B c k)),.row z4 1 (bx (v9 a2 B c 0)),.row z4 1 (bx (v9 a3 B c 0))]⟩) q ⟨⟨65,_⟩,_⟩ (q9 [0,1,2,3,4,5] [0,1,6,7,37,38,8,39,44,45,46] rfl) ⟨0,0,by omega,rfl,rfl⟩ ?_
    rintro n2 s ⟨k,j,hnk,hj,rfl⟩
    refine q8 (q7 hT ?_)
    refine q8 (z6 (x7 (fun h=>?_) (fun h=>?_)))
    ·have h:=of_decide_eq_true (show decide (j<(((bx a1).length:Nat):Int))=true from h)
     have hk:k<a1.length:=by omega
     have hkB:k<B.length:=by omega
     refine z9 ?_
     have hxa:=List.getElem?_eq_getElem hk
     have hxb:=List.getElem?_eq_getElem hkB
     have hst:=W7 c hxa hxb
     have hlb:=hBc _ (List.getElem_mem hkB)
     generalize a1[k]=x at hxa hst
     generalize B[k]=b at hxb hst hlb
     have hxp:(bx a1)[j.toNat]?=some [u8 x]:=by rw[hj,Int.toNat_natCast];exact Q7 hxa
     have hbp:(y6 B)[0+j.toNat]?=some [bP b]:=by rw[hj,Int.toNat_natCast,Nat.zero_add];exact Z2 hxb
     have hml:=Z4 (B:=B) a1 hBc (k:=k) (by omega)
     have w:=wadd (v9 a1 B c k) b x hml hlb
     rw[hml,← hst]at w
     refine y8 ⟨⟨65,[(0,.p (.sl 1 (y6 [a0,a1,a2,a3]))),(1,.msl 0 1 0 q),(6,.p (.box F)),(7,.msl 1 1 0 4),(37,.p (.sl 1 (y6 [a0,a1,a2,a3]))),(38,i64 4),(8,i64 1),(39,i64 1),(44,bA a1),(45,i64 (bx a1).length),(46,i64 j)]⟩,[.row z5 1 (y6 B),.cells z5 [.msl 2 1 0 c,.msl 3 1 0 c,.msl 4 1 0 c,.msl 5 1 0 c],.row z4 1 (bx (v9 a0 B c q)),.row z4 1 (bx (v9 a1 B c (k+1))),.row z4 1 (bx (v9 a2 B c 0)),.row z4 1 (bx (v9 a3 B c 0))]⟩ True (z7 (q8 (q7 hT ?_))) (fun _=>?_)
     ·refine⟨by omega,u7 hxp ?_⟩
      refine w9 [10] [] hT z8 (by rfl) ?_
      refine⟨by decide,?_⟩
      refine⟨⟨by omega,by omega⟩,?_⟩
      refine u7 hbp ?_
      refine⟨_,_,Q1 [3] w rfl rfl rfl,?_⟩
      repeat first|refine⟨rfl,?_⟩|refine⟨⟨by decide,rfl⟩,?_⟩|refine⟨⟨⟨by omega,by omega⟩,rfl⟩,?_⟩|refine⟨u7 hbp rfl,?_⟩
      exact⟨q9 [0,1,2,3,4,5] [0,1,6,7,37,38,8,39,44,45,46] rfl,trivial⟩
     ·refine q7 hT ?_
      exact⟨n2 - 1,by omega,_,q9 [0,1,2,3,4,5] [0,1,6,7,37,38,8,39,44,45,46] rfl,k+1,IntKind.i64.wrap (j+1),by omega,by rw[x9 _ (by omega) (by omega)];omega,rfl⟩
    ·have h:=of_decide_eq_false (show decide (j<(((bx a1).length:Nat):Int))=false from h)
     rw[show k=q by omega]
     refine u0 ?_
     exact⟨q9 [0,1,2,3,4,5] [0,1,6,7,37,38,8,39] rfl,trivial⟩
   ·refine q7 hT ?_
    exact⟨2,by decide,_,q9 [0,1,2,3,4,5] [0,1,6,7,37,38,39] rfl,(.inr (.inr (.inl ⟨rfl,rfl⟩)))⟩
  ·refine q8 (q7 hT ?_)
   refine q8 (z6 ?_)
   refine z9 ?_
   refine y8 ⟨⟨65,[(0,.p (.sl 1 (y6 [a0,a1,a2,a3]))),(1,.msl 0 1 0 q),(6,.p (.box F)),(7,.msl 1 1 0 4),(37,.p (.sl 1 (y6 [a0,a1,a2,a3]))),(38,i64 4),(8,i64 2),(39,i64 2)]⟩,[.row z5 1 (y6 B),.cells z5 [.msl 2 1 0 c,.msl 3 1 0 c,.msl 4 1 0 c,.msl 5 1 0 c],.row z4 1 (bx (v9 a0 B c q)),.row z4 1 (bx (v9 a1 B c q)),.row z4 1 (bx (v9 a2 B c q)),.row z4 1 (bx (v9 a3 B c 0))]⟩ True (z7 ?_) (fun _=>?_)
   ·refine q8 (q7 hT ?_)
    refine⟨by decide,u7 rfl ?_⟩
    refine q8 (q7 hT ?_)
    refine z7 ?_
    refine w7 (fun n s=>∃ (k:Nat) (j:Int),n+k=q∧j=k∧s=⟨⟨65,[(0,.p (.sl 1 (y6 [a0,a1,a2,a3]))),(1,.msl 0 1 0 q),(6,.p (.box F)),(7,.msl 1 1 0 4),(37,.p (.sl 1 (y6 [a0,a1,a2,a3]))),(38,i64 4),(8,i64 2),(39,i64 2),(44,bA a2),(45,i64 (bx a2).length),(46,i64 j)]⟩,[.row z5 1 (y6 B),.cells z5 [.msl 2 1 0 c,.msl 3 1 0 c,.msl 4 1 0 c,.msl 5 1 0 c],.row z4 1 (bx (v9 a0 B c q)),.row z4 1 (bx (v9 a1 B c q)),.row z4 1 (bx (v9 a2 B c k)),.row z4 1 (bx (v9 a3 B c 0))]⟩) q ⟨⟨65,_⟩,_⟩ (q9 [0,1,2,3,4,5] [0,1,6,7,37,38,8,39,44,45,46] rfl) ⟨0,0,by omega,rfl,rfl⟩ ?_
    rintro n2 s ⟨k,j,hnk,hj,rfl⟩
    refine q8 (q7 hT ?_)
    refine q8 (z6 (x7 (fun h=>?_) (fun h=>?_)))
    ·have h:=of_decide_eq_true (show decide (j<(((bx a2).length:Nat):Int))=true from h)
     have hk:k<a2.length:=by omega
     have hkB:k<B.length:=by omega
     refine z9 ?_
     have hxa:=List.getElem?_eq_getElem hk
     have hxb:=List.getElem?_eq_getElem hkB
     have hst:=W7 c hxa hxb
     have hlb:=hBc _ (List.getElem_mem hkB)
     generalize a2[k]=x at hxa hst
     generalize B[k]=b at hxb hst hlb
     have hxp:(bx a2)[j.toNat]?=some [u8 x]:=by rw[hj,Int.toNat_natCast];exact Q7 hxa
     have hbp:(y6 B)[0+j.toNat]?=some [bP b]:=by rw[hj,Int.toNat_natCast,Nat.zero_add];exact Z2 hxb
     have hml:=Z4 (B:=B) a2 hBc (k:=k) (by omega)
     have w:=wadd (v9 a2 B c k) b x hml hlb
     rw[hml,← hst]at w
     refine y8 ⟨⟨65,[(0,.p (.sl 1 (y6 [a0,a1,a2,a3]))),(1,.msl 0 1 0 q),(6,.p (.box F)),(7,.msl 1 1 0 4),(37,.p (.sl 1 (y6 [a0,a1,a2,a3]))),(38,i64 4),(8,i64 2),(39,i64 2),(44,bA a2),(45,i64 (bx a2).length),(46,i64 j)]⟩,[.row z5 1 (y6 B),.cells z5 [.msl 2 1 0 c,.msl 3 1 0 c,.msl 4 1 0 c,.msl 5 1 0 c],.row z4 1 (bx (v9 a0 B c q)),.row z4 1 (bx (v9 a1 B c q)),.row z4 1 (bx (v9 a2 B c (k+1))),.row z4 1 (bx (v9 a3 B c 0))]⟩ True (z7 (q8 (q7 hT ?_))) (fun _=>?_)
     ·refine⟨by omega,u7 hxp ?_⟩
      refine w9 [10] [] hT z8 (by rfl) ?_
      refine⟨by decide,?_⟩
      refine⟨⟨by omega,by omega⟩,?_⟩
      refine u7 hbp ?_
      refine⟨_,_,Q1 [4] w rfl rfl rfl,?_⟩
      repeat first|refine⟨rfl,?_⟩|refine⟨⟨by decide,rfl⟩,?_⟩|refine⟨⟨⟨by omega,by omega⟩,rfl⟩,?_⟩|refine⟨u7 hbp rfl,?_⟩
      exact⟨q9 [0,1,2,3,4,5] [0,1,6,7,37,38,8,39,44,45,46] rfl,trivial⟩
     ·refine q7 hT ?_
      exact⟨n2 - 1,by omega,_,q9 [0,1,2,3,4,5] [0,1,6,7,37,38,8,39,44,45,46] rfl,k+1,IntKind.i64.wrap (j+1),by omega,by rw[x9 _ (by omega) (by omega)];omega,rfl⟩
    ·have h:=of_decide_eq_false (show decide (j<(((bx a2).length:Nat):Int))=false from h)
     rw[show k=q by omega]
     refine u0 ?_
     exact⟨q9 [0,1,2,3,4,5] [0,1,6,7,37,38,8,39] rfl,trivial⟩
   ·refine q7 hT ?_
    exact⟨1,by decide,_,q9 [0,1,2,3,4,5] [0,1,6,7,37,38,39] rfl,(.inr (.inr (.inr (.inl ⟨rfl,rfl⟩))))⟩
  ·refine q8 (q7 hT ?_)
   refine q8 (z6 ?_)
   refine z9 ?_
   refine y8 ⟨⟨65,[(0,.p (.sl 1 (y6 [a0,a1,a2,a3]))),(1,.msl 0 1 0 q),(6,.p (.box F)),(7,.msl 1 1 0 4),(37,.p (.sl 1 (y6 [a0,a1,a2,a3]))),(38,i64 4),(8,i64 3),(39,i64 3)]⟩,[.row z5 1 (y6 B),.cells z5 [.msl 2 1 0 c,.msl 3 1 0 c,.msl 4 1 0 c,.msl 5 1 0 c],.row z4 1 (bx (v9 a0 B c q)),.row z4 1 (bx (v9 a1 B c q)),.row z4 1 (bx (v9 a2 B c q)),.row z4 1 (bx (v9 a3 B c q))]⟩ True (z7 ?_) (fun _=>?_)
   ·refine q8 (q7 hT ?_)
    refine⟨by decide,u7 rfl ?_⟩
    refine q8 (q7 hT ?_)
    refine z7 ?_
    refine w7 (fun n s=>∃ (k:Nat) (j:Int),n+k=q∧j=k∧s=⟨⟨65,[(0,.p (.sl 1 (y6 [a0,a1,a2,a3]))),(1,.msl 0 1 0 q),(6,.p (.box F)),(7,.msl 1 1 0 4),(37,.p (.sl 1 (y6 [a0,a1,a2,a3]))),(38,i64 4),(8,i64 3),(39,i64 3),(44,bA a3),(45,i64 (bx a3).length),(46,i64 j)]⟩,[.row z5 1 (y6 B),.cells z5 [.msl 2 1 0 c,.msl 3 1 0 c,.msl 4 1 0 c,.msl 5 1 0 c],.row z4 1 (bx (v9 a0 B c q)),.row z4 1 (bx (v9 a1 B c q)),.row z4 1 (bx (v9 a2 B c q)),.row z4 1 (bx (v9 a3 B c k))]⟩) q ⟨⟨65,_⟩,_⟩ (q9 [0,1,2,3,4,5] [0,1,6,7,37,38,8,39,44,45,46] rfl) ⟨0,0,by omega,rfl,rfl⟩ ?_
    rintro n2 s ⟨k,j,hnk,hj,rfl⟩
    refine q8 (q7 hT ?_)
    refine q8 (z6 (x7 (fun h=>?_) (fun h=>?_)))
    ·have h:=of_decide_eq_true (show decide (j<(((bx a3).length:Nat):Int))=true from h)
     have hk:k<a3.length:=by omega
     have hkB:k<B.length:=by omega
     refine z9 ?_
     have hxa:=List.getElem?_eq_getElem hk
     have hxb:=List.getElem?_eq_getElem hkB
     have hst:=W7 c hxa hxb
     have hlb:=hBc _ (List.getElem_mem hkB)
     generalize a3[k]=x at hxa hst
     generalize B[k]=b at hxb hst hlb
     have hxp:(bx a3)[j.toNat]?=some [u8 x]:=by rw[hj,Int.toNat_natCast];exact Q7 hxa
     have hbp:(y6 B)[0+j.toNat]?=some [bP b]:=by rw[hj,Int.toNat_natCast,Nat.zero_add];exact Z2 hxb
     have hml:=Z4 (B:=B) a3 hBc (k:=k) (by omega)
     have w:=wadd (v9 a3 B c k) b x hml hlb
     rw[hml,← hst]at w
     refine y8 ⟨⟨65,[(0,.p (.sl 1 (y6 [a0,a1,a2,a3]))),(1,.msl 0 1 0 q),(6,.p (.box F)),(7,.msl 1 1 0 4),(37,.p (.sl 1 (y6 [a0,a1,a2,a3]))),(38,i64 4),(8,i64 3),(39,i64 3),(44,bA a3),(45,i64 (bx a3).length),(46,i64 j)]⟩,[.row z5 1 (y6 B),.cells z5 [.msl 2 1 0 c,.msl 3 1 0 c,.msl 4 1 0 c,.msl 5 1 0 c],.row z4 1 (bx (v9 a0 B c q)),.row z4 1 (bx (v9 a1 B c q)),.row z4 1 (bx (v9 a2 B c q)),.row z4 1 (bx (v9 a3 B c (k+1)))]⟩ True (z7 (q8 (q7 hT ?_))) (fun _=>?_)
     ·refine⟨by omega,u7 hxp ?_⟩
      refine w9 [10] [] hT z8 (by rfl) ?_
      refine⟨by decide,?_⟩
      refine⟨⟨by omega,by omega⟩,?_⟩
      refine u7 hbp ?_
      refine⟨_,_,Q1 [5] w rfl rfl rfl,?_⟩
      repeat first|refine⟨rfl,?_⟩|refine⟨⟨by decide,rfl⟩,?_⟩|refine⟨⟨⟨by omega,by omega⟩,rfl⟩,?_⟩|refine⟨u7 hbp rfl,?_⟩
      exact⟨q9 [0,1,2,3,4,5] [0,1,6,7,37,38,8,39,44,45,46] rfl,trivial⟩
     ·refine q7 hT ?_
      exact⟨n2 - 1,by omega,_,q9 [0,1,2,3,4,5] [0,1,6,7,37,38,8,39,44,45,46] rfl,k+1,IntKind.i64.wrap (j+1),by omega,by rw[x9 _ (by omega) (by omega)];omega,rfl⟩
    ·have h:=of_decide_eq_false (show decide (j<(((bx a3).length:Nat):Int))=false from h)
     rw[show k=q by omega]
     refine u0 ?_
     exact⟨q9 [0,1,2,3,4,5] [0,1,6,7,37,38,8,39] rfl,trivial⟩
   ·refine q7 hT ?_
    exact⟨0,by decide,_,q9 [0,1,2,3,4,5] [0,1,6,7,37,38,39] rfl,(.inr (.inr (.inr (.inr ⟨rfl,rfl⟩))))⟩
  ·refine q8 (q7 hT ?_)
   refine q8 (z6 ?_)
   refine u0 ?_
   exact⟨q9 [0,1,2,3,4,5] [7] rfl,trivial⟩
 refine Q8 (U9 2 1 0 c rfl rfl rfl (by rw[u6,hmk0])) ?_
 refine Q8 (U9 3 1 1 c rfl rfl rfl (by rw[u6,hmk1])) ?_
 refine Q8 (U9 4 1 2 c rfl rfl rfl (by rw[u6,hmk2])) ?_
 refine Q8 (U9 5 1 3 c rfl rfl rfl (by rw[u6,hmk3])) ?_
 refine Q8 (q1g 1 [bP (v9 a0 B c q),bP (v9 a1 B c q),bP (v9 a2 B c q),bP (v9 a3 B c q)] rfl rfl (show 4≤140737488355328 by decide)) ?_
 refine Q8 (q0s 7 1 _ rfl rfl rfl rfl) ?_
 refine q8 (q7 hT ?_)
 refine x6 ?_
 exact y9 [0] ⟨rfl,rfl⟩ rfl
end Go.Proofs.YtinfbclgkghgaaaGreat.AL
/- The layer 2 (mat): of matrices of up to four rows. -/
namespace Go.Proofs.YtinfbclgkghgaaaGreat.AL
open Go Go.Proofs
theorem v5q (k:Nat)(h1:1≤k)(h4:k≤4):AF Tryz.prog q2h [i64 k] [] (Q0 (.tup [.msl 0 1 0 k,i64 0]) [.row z5 1 (y6 ((List.range k).map (Q3 idA k)))]):=by
 have:k=1∨k=2∨k=3∨k=4:=by omega
 rcases this with rfl|rfl|rfl|rfl
 ·exact w9h
 ·exact w9i
 ·exact w9j
 ·exact w9k
theorem w0i (m c:Nat)(h1:1≤m)(h3:m≤3)(c1:1≤c)(c2:c≤64):AF Tryz.prog q4b [i64 m,i64 c] [] (Q0 (.tup [.p (.sl 1 (y6 ((List.range m).map (Q3 (q7k c) c)))),i64 0]) []):=by
 have:m=1∨m=2∨m=3:=by omega
 rcases this with rfl|rfl|rfl
 ·exact w0f c c1 c2
 ·exact w0g c c1 c2
 ·exact w0h c c1 c2
theorem w9z (A B:List y7)(q c:Nat)(h1:1≤A.length)(h4:A.length≤4)(q1:1≤q)(q2:q≤64)(c1:1≤c)(c2:c≤4096)(hA:∀ s∈A,s.length=q)(hB:B.length=q)(hBc:∀ s∈B,s.length=c) :
 AF Tryz.prog J7 [.p (.sl 1 (y6 A)),.p (.sl 1 (y6 B))] [] (Q0 (.tup [.msl 0 1 0 A.length,i64 0]) [.row z5 1 (y6 (A.map fun a=>v9 a B c q))]):=by
 match A,h1,h4 with
 |[a0],_,_=>exact w9n a0 B q c q1 q2 c1 c2 hA hB hBc
 |[a0,a1],_,_=>exact w9q a0 a1 B q c q1 q2 c1 c2 hA hB hBc
 |[a0,a1,a2],_,_=>exact w9s a0 a1 a2 B q c q1 q2 c1 c2 hA hB hBc
 |[a0,a1,a2,a3],_,_=>exact w9u a0 a1 a2 a3 B q c q1 q2 c1 c2 hA hB hBc
 |[],h,_=>exact absurd h (by decide)
 |_ :: _ :: _ :: _ :: _ :: _,_,h=>simp at h
theorem v0a (A B:List y7)(q c:Nat)(h1:1≤A.length)(h4:A.length≤4)(q1:1≤q)(q2:q≤64)(c1:1≤c)(c2:c≤4096)(hA:∀ s∈A,s.length=q)(hB:B.length=q)(hBc:∀ s∈B,s.length=c) :
 AFm Tryz.prog 1 J7 [.p (.sl 1 (y6 A)),.msl 0 1 0 q] [.row z5 1 (y6 B)] (Q0 (.tup [.p (.sl 1 (y6 (A.map fun a=>v9 a B c q))),i64 0]) [.row z5 1 (y6 B)]):=by
 match A,h1,h4 with
 |[a0],_,_=>exact w9v a0 B q c q1 q2 c1 c2 hA hB hBc
 |[a0,a1],_,_=>exact w9w a0 a1 B q c q1 q2 c1 c2 hA hB hBc
 |[a0,a1,a2],_,_=>exact w9x a0 a1 a2 B q c q1 q2 c1 c2 hA hB hBc
 |[a0,a1,a2,a3],_,_=>exact w9y a0 a1 a2 a3 B q c q1 q2 c1 c2 hA hB hBc
 |[],h,_=>exact absurd h (by decide)
 |_ :: _ :: _ :: _ :: _ :: _,_,h=>simp at h
def y0f (L:List y7):List y7:=(List.range L.length).map (gs L.length L L.length).2
theorem q9f {r:Nat}{L:List y7}(h:L.length=r):y0f L=(List.range r).map (gs r L r).2:=by subst h;rfl
theorem Q1y (f:Nat→y7):(List.range 1).map f=[f 0]:=rfl
theorem Q1z (f:Nat→y7):(List.range 2).map f=[f 0,f 1]:=rfl
theorem Q2a (f:Nat→y7):(List.range 3).map f=[f 0,f 1,f 2]:=rfl
theorem Q2b (f:Nat→y7):(List.range 4).map f=[f 0,f 1,f 2,f 3]:=rfl
theorem v5r (L:List y7)(h1:1≤L.length)(h4:L.length≤4)(hL:∀ s∈L,s.length=L.length)(hok:y0d L.length L=true) :
 AF Tryz.prog q8x [.p (.sl 1 (y6 L))] [] (Q0 (.tup [.p (.sl 1 (y6 (y0f L))),i64 0]) []):=by
 match L,h1,h4 with
 |[a0],_,_=>
  rw[q9f (r:=1) rfl,Q1y]
  exact v5k a0 hL hok
 |[a0,a1],_,_=>
  rw[q9f (r:=2) rfl,Q1z]
  exact v5m a0 a1 hL hok
 |[a0,a1,a2],_,_=>
  rw[q9f (r:=3) rfl,Q2a]
  exact v5n a0 a1 a2 hL hok
 |[a0,a1,a2,a3],_,_=>
  rw[q9f (r:=4) rfl,Q2b]
  exact v5p a0 a1 a2 a3 hL hok
 |[],h,_=>exact absurd h (by decide)
 |_ :: _ :: _ :: _ :: _ :: _,_,h=>simp at h
end Go.Proofs.YtinfbclgkghgaaaGreat.AL
namespace Go.Proofs.YtinfbclgkghgaaaGreat.AL
open Go Go.Proofs
def z5g (k m:Nat):List y7:=(List.range m).map (Q3 (q7k k) k)
def J5 (k m:Nat):List y7:=(List.range k).map (Q3 idA k)++z5g k m
theorem q9g (k m:Nat):(z5g k m).length=m:=by unfold z5g;rw[List.length_map,List.length_range]
theorem y0g (k m:Nat):(J5 k m).length=k+m:=by unfold J5;rw[List.length_append,List.length_map,List.length_range,q9g]
theorem y7g (A:Nat→Nat→UInt8)(c i:Nat):(Q3 A c i).length=c:=by unfold Q3;rw[List.length_map,List.length_range]
theorem w0j {k m:Nat}:∀ s∈z5g k m,s.length=k:=fun s hs=>by
 unfold z5g at hs
 rw[List.mem_map]at hs
 obtain⟨i,_,rfl⟩:=hs
 exact y7g _ _ _
theorem x1s {k m:Nat}:∀ s∈J5 k m,s.length=k:=fun s hs=>by
 unfold J5 at hs
 rw[List.mem_append]at hs
 rcases hs with hs|hs
 ·rw[List.mem_map]at hs
  obtain⟨i,_,rfl⟩:=hs
  exact y7g _ _ _
 ·exact w0j s hs
theorem q5r (l r:List y7):y6 (l++r)=y6 l++y6 r:=by simp[y6]
theorem v0b (l:List y7)(n:Nat):(y6 l).drop n=y6 (l.drop n):=by simp[y6,List.map_drop]
theorem v0c (l:List y7)(n:Nat):(y6 l).take n=y6 (l.take n):=by simp[y6,List.map_take]
set_option maxHeartbeats 1000000 in
set_option maxRecDepth 20000 in
theorem w6i (k m:Nat)(k1:1≤k)(k4:k≤4)(m1:1≤m)(m3:m≤3):AF Tryz.prog w8d [i64 k,i64 m] [] (Q0 (.tup [.p (.sl 1 (y6 (J5 k m))),i64 0]) []):=by
 refine AF.mono (R:=fun r H'=>∃ z,z=y6 (J5 k m)∧r=.tup [.p (.sl 1 z),i64 0]∧H'=[]) ?_ (by rintro r H' ⟨z,rfl,rfl,rfl⟩;exact⟨rfl,rfl⟩)
 have wo:=v5q k k1 k4
 have wc:=w0i m k m1 m3 k1 (by omega)
 have hz:y6 ((List.range k).map (Q3 idA k))++y6 (z5g k m)=y6 (J5 k m):=by unfold J5;rw[q5r]
 have hol:((List.range k).map (Q3 idA k)).length=k:=by rw[List.length_map,List.length_range]
 have hcl:=q9g k m
 have wc:AF Tryz.prog q4b [i64 m,i64 k] [] (Q0 (.tup [.p (.sl 1 (y6 (z5g k m))),i64 0]) []):=wc
 generalize y6 (J5 k m)=Z at hz
 generalize (List.range k).map (Q3 idA k)=O at wo hz hol
 generalize z5g k m=C at wc hz hcl
 have hocl:=Z7 O
 have hccl:=Z7 C
 refine u9 hT w8e rfl rfl w8f rfl ?_
 refine q8 (q7 hT ?_)
 refine y8 ⟨⟨43,[(0,i64 k),(1,i64 m)]⟩,[]⟩ True (q8 (q7 hT ?_)) (fun _=>?_)
 ·refine x7 (fun h=>?_) (fun h=>?_)
  ·have h:=of_decide_eq_true (show decide ((k:Int)<1)=true from h)
   omega
  refine x7 (fun h=>?_) (fun h=>?_)
  ·have h:=of_decide_eq_true (show decide ((k:Int) > 64)=true from h)
   omega
  refine z6 (x7 (fun h=>?_) (fun h=>?_))
  ·have h:=of_decide_eq_true (show decide ((m:Int) > IntKind.i64.wrap (64 - (k:Int)))=true from h)
   rw[x9 _ (by omega) (by omega)]at h
   omega
  exact z9 ⟨q9 [] [0,1] rfl,trivial⟩
 refine y8 ⟨⟨43,[(0,i64 k),(1,i64 m),(6,.msl 0 1 0 k)]⟩,[.row z5 1 (y6 O)]⟩ True (q7 hT ?_) (fun _=>?_)
 ·refine x8 wo ?_
  exact⟨q9 [0] [0,1,6] rfl,trivial⟩
 refine q8 (q8 (q7 hT ?_))
 refine z6 (x7 (fun h=>?_) (fun h=>?_))
 ·have h:((m:Int)==0)=true:=h
  rw[beq_iff_eq]at h
  omega
 refine z9 ?_
 refine q8 (q7 hT ?_)
 refine x8 (u5 wc _ rfl rfl) ?_
 refine q8 (q7 hT ?_)
 refine⟨by omega,⟨by show (((y6 O).length:Nat)+(y6 C).length)*24≤_;omega,by omega⟩,?_⟩
 refine Q8 (q0s 4 1 _ rfl rfl rfl rfl) ?_
 refine x6 ?_
 exact y9 [] ⟨_,hz,rfl,rfl⟩ rfl
def q7f (data:List y7)(m c:Nat):List y7:=(z5g data.length m).map fun a=>v9 a data c data.length
set_option maxHeartbeats 1000000 in
set_option maxRecDepth 20000 in
theorem y7h (data:List y7)(m c:Nat)(k1:1≤data.length)(k4:data.length≤4)(m1:1≤m)(m3:m≤3)(c1:1≤c)(c2:c≤4096)(hc:∀ s∈data,s.length=c) :
 AFm Tryz.prog 1 x7u [.msl 0 1 0 data.length,i64 m] [.row z5 1 (y6 data)] (Q0 (.tup [.p (.sl 1 (y6 (q7f data m c))),i64 0]) [.row z5 1 (y6 data)]):=by
 obtain⟨k,hk⟩:∃ k,k=data.length:=⟨_,rfl⟩
 have wr:=w6i k m (by omega) (by omega) m1 m3
 have wm:=J1 data c k1 (by omega) c1 c2 hc
 have hdl:=Z7 data
 have lend:=z5u wm 0 (H:=[.row z5 1 (y6 data)]) (args:=[.msl 0 1 0 k]) (t:=z5) (sz:=1) (xs:=y6 data) rfl ⟨.inr (.inl ⟨congrArg (AV.msl 0 1 0) (show k=(y6 data).length by omega),rfl⟩),trivial⟩ rfl (fun k hk=>by simp at hk)
 have wx:=v0a (z5g k m) data k c (by rw[q9g];exact m1) (by rw[q9g];omega) (by omega) (by omega) c1 c2 w0j hk.symm hc
 have hE:q7f data m c=(z5g k m).map fun a=>v9 a data c k:=by unfold q7f;rw[← hk]
 rw[← hE]at wx
 rw[← hk]
 have hrl:=y0g k m
 have hrc:=Z7 (J5 k m)
 have hsl:((y6 (J5 k m)).take (((y6 (J5 k m)).length:Nat):Int).toNat).drop ((k:Nat):Int).toNat=y6 (z5g k m):=by
  simp only[Int.toNat_natCast]
  rw[List.take_length,v0b]
  unfold J5
  rw[List.drop_left' (by rw[List.length_map,List.length_range])]
 rw[← hsl]at wx
 generalize q7f data m c=E at wx ⊢
 generalize y6 (J5 k m)=R at wr wx hrc
 refine Q9 1 hT x7v rfl rfl x7w rfl rfl ?_
 refine q8 (q7 hT ?_)
 refine y8 ⟨⟨34,[(0,.msl 0 1 0 k),(1,i64 m),(6,.p (.sl 1 R)),(7,i64 0)]⟩,[.row z5 1 (y6 data)]⟩ True (q7 hT ?_) (fun _=>?_)
 ·refine x8 (u5 wr _ rfl rfl) ?_
  exact⟨q9 [0] [0,1,6,7] rfl,trivial⟩
 refine y8 ⟨⟨34,[(0,.msl 0 1 0 k),(1,i64 m),(6,.p (.sl 1 R))]⟩,[.row z5 1 (y6 data)]⟩ True (z7 (q8 (q7 hT ?_))) (fun _=>?_)
 ·refine x8 lend ?_
  refine z6 ?_
  refine q8 (q7 hT ?_)
  refine z6 (x7 (fun h=>?_) (fun h=>?_))
  ·have h:((m:Int)==0)=true:=h
   rw[beq_iff_eq]at h
   omega
  exact z9 ⟨q9 [0] [0,1,6] rfl,trivial⟩
 refine q8 (q7 hT ?_)
 refine⟨⟨by omega,by omega,Int.le_refl _⟩,?_⟩
 refine x8 (Q1 [0] wx rfl rfl rfl) ?_
 refine x6 ?_
 exact y9 [0] ⟨rfl,rfl⟩ rfl
end Go.Proofs.YtinfbclgkghgaaaGreat.AL
namespace Go.Proofs.YtinfbclgkghgaaaGreat.AL
open Go Go.Proofs
abbrev Pc.four (p:Pc):List Int:=[p.frm,p.chain,p.index,p.of_]
end Go.Proofs.YtinfbclgkghgaaaGreat.AL
namespace Go.Proofs.YtinfbclgkghgaaaGreat.AL
open Go Go.Proofs Go.Proofs.YtinfbclgkghgaaaGreat.AL.Crc
def Pc.zero:Pc:=⟨0,0,0,0,0,0,[]⟩
theorem v0d {g:GeoV}(hg:g.may=true){m:Int}(m0:0≤m)(m2:m<2){q:Int}(q0:0≤q):4≤q3k g m (q.tmod g.w)∧q3k g m (q.tmod g.w)<4+2*g.w∧X2 (q3k g m (q.tmod g.w))=true:=by
 obtain⟨g1,g2,_⟩:=g.of_may hg
 have h1:=Int.tmod_nonneg (a:=q) g.w (by omega)
 have h2:=Int.tmod_lt_of_pos q (show 0<g.w by omega)
 unfold q3k X2
 have:m=0∨m=1:=by omega
 rcases this with rfl|rfl
 ·refine⟨by omega,by omega,?_⟩
  simp only[Bool.and_eq_true,decide_eq_true_eq];omega
 ·refine⟨by omega,by omega,?_⟩
  simp only[Bool.and_eq_true,decide_eq_true_eq];omega
theorem y7i {p:Pc}{vol:Int}{g:GeoV}{m:Int}(hp:p.may=true)(hg:g.may=true)(hv:X2 vol=true)(m0:0≤m)(m2:m<2) :
 p.sector vol g m=(q0i (p.blk vol g m).all,0)∧U6 (q0i (p.blk vol g m).all)=(p.blk vol g m,0):=by
 have hl:=w6f hp
 obtain⟨h1,h2,_⟩:=p.of_may hp
 have hn:(p.blk vol g m).nums=true:=by
  unfold Blk.nums Pc.blk
  have ha:=(v0d hg m0 m2 (q:=p.seq) h1.1).2.2
  simp only[List.all_cons,List.all_nil,Bool.and_eq_true,decide_eq_true_eq]
  have w1:X2 p.epoch=true:=by unfold X2;simp only[Bool.and_eq_true,decide_eq_true_eq];omega
  have w2:X2 p.seq=true:=by unfold X2;simp only[Bool.and_eq_true,decide_eq_true_eq];omega
  exact⟨by decide,hv,ha,w1,w2,trivial⟩
 have hb:(p.blk vol g m).body.length≤228:=by show (pcB p).length≤228;omega
 refine⟨?_,y0c hn hb⟩
 unfold Pc.sector
 rw[hp,hg,hv,decide_eq_false (show ¬ m<0 by omega),decide_eq_false (show ¬ m≥2 by omega)]
 show (p.blk vol g m).sld=_
 unfold Blk.sld
 rw[hn,decide_eq_false (show ¬ (p.blk vol g m).body.length > 228 by omega)]
end Go.Proofs.YtinfbclgkghgaaaGreat.AL
namespace Go.Proofs.YtinfbclgkghgaaaGreat.AL
open Go Go.Proofs
abbrev q9h (S R:List (List PV))(long:Int):ABlk:=.cells v3z [.p (.sl 1 S),.p (.sl 1 R),i64 long]
set_option maxRecDepth 20000 in
theorem w0k (S:List y7)(R:List (List PV))(long:Int)(i:Nat)(s:y7)(hs:S[i]?=some s):AFm Tryz.prog 1 z4i [.ref 0 0,i64 i] [q9h (y6 S) R long] (Q0 (bl (decide (0<s.length))) [q9h (y6 S) R long]):=by
 refine AFm.mono (R:=fun r H'=>∃ z,z=decide (0<s.length)∧r=bl z∧H'=[q9h (y6 S) R long]) ?_ (by rintro r H' ⟨z,rfl,rfl,rfl⟩;exact⟨rfl,rfl⟩)
 have hb:=u6 s
 have hx:(y6 S)[((i:Nat):Int).toNat]?=some [bP s]:=by rw[Int.toNat_natCast];exact Z2 hs
 refine Q9 1 hT y9m rfl rfl y9n rfl rfl ?_
 refine q8 (q7 hT ?_)
 refine q8 (q7 hT ?_)
 refine⟨by omega,u7 hx ?_⟩
 refine x6 ?_
 refine y9 [0] ⟨decide ((((bx s).length:Nat):Int) > 0),?_,rfl,rfl⟩ rfl
 rw[hb]
 by_cases h:0<s.length
 ·rw[decide_eq_true h,decide_eq_true (by omega)]
 ·rw[decide_eq_false h,decide_eq_false (by omega)]
def q8b (S:List y7)(c:Nat):Int:=match S.any (fun s=>decide (0<s.length)) with|true=>c|false=>0
theorem w4f (S:List y7)(c:Nat)(s:y7):q8b (S++[s]) c=match decide (0<s.length) with|true=>(c:Int)|false=>q8b S c:=by
 unfold q8b
 rw[List.any_append]
 cases hs:decide (0<s.length) <;> simp[hs]
set_option maxHeartbeats 1000000 in
set_option maxRecDepth 20000 in
theorem v8g (S:List y7)(R:List (List PV))(c:Nat)(c1:1≤c)(c2:c≤4096)(hl:S.length≤64)(hS:∀ s∈S,s.length=0∨s.length=c) :
 AFm Tryz.prog 1 x4t [.ref 0 0] [q9h (y6 S) R 0] (Q0 (bl true) [q9h (y6 S) R (q8b S c)]):=by
 refine AFm.mono (R:=fun r H'=>∃ z,z=true∧r=bl z∧H'=[q9h (y6 S) R (q8b S c)]) ?_ (by rintro r H' ⟨z,rfl,rfl,rfl⟩;exact⟨rfl,rfl⟩)
 have hcl:=Z7 S
 refine Q9 1 hT x4u rfl rfl x4v rfl rfl ?_
 refine q8 (q7 hT ?_)
 refine y8 ⟨⟨42,[(0,.ref 0 0)]⟩,[q9h (y6 S) R (q8b S c)]⟩ True (q8 (q7 hT ?_)) (fun _=>?_)
 ·refine z7 ?_
  refine w7 (fun n s=>∃ (k:Nat) (j long:Int),n+k=S.length∧j=k∧long=q8b (S.take k) c∧s=⟨⟨42,[(0,.ref 0 0),(8,.p (.sl 1 (y6 S))),(9,i64 (y6 S).length),(10,i64 j)]⟩,[q9h (y6 S) R long]⟩) S.length ⟨⟨42,_⟩,_⟩ (q9 [0] [0,8,9,10] rfl) ⟨0,0,0,rfl,rfl,rfl,rfl⟩ ?_
  rintro n s ⟨k,j,long,hnk,hj,hlong,rfl⟩
  refine q8 (q7 hT ?_)
  refine q8 (z6 (x7 (fun h=>?_) (fun h=>?_)))
  ·have h:=of_decide_eq_true (show decide (j<(((y6 S).length:Nat):Int))=true from h)
   have hk:k<S.length:=by omega
   refine z9 ?_
   have hx:=List.getElem?_eq_getElem hk
   have hsl:=hS _ (List.getElem_mem hk)
   generalize S[k]=x at hx hsl
   have hxp:(y6 S)[j.toNat]?=some [bP x]:=by rw[hj,Int.toNat_natCast];exact Z2 hx
   have hbx:=u6 x
   have hstep:q8b (S.take (k+1)) c=match decide (0<x.length) with|true=>(c:Int)|false=>q8b (S.take k) c:=by
    rw[List.take_add_one,hx];exact w4f _ _ _
   have hlc:long=0∨long=c:=by
    rw[hlong];unfold q8b;split
    ·exact .inr rfl
    ·exact .inl rfl
   rw[← hlong]at hstep
   have w:=w0k S R long k x hx
   rw[← hj]at w
   obtain⟨e,he⟩:∃ e,e=decide (0<x.length):=⟨_,rfl⟩
   rw[← he]at w hstep
   refine w6 (fun st=>∃ long',long'=q8b (S.take (k+1)) c∧st=⟨⟨42,[(0,.ref 0 0),(8,.p (.sl 1 (y6 S))),(9,i64 (y6 S).length),(10,i64 j)]⟩,[q9h (y6 S) R long']⟩) (z7 (q8 (q7 hT ?_))) ?_
   ·refine⟨by omega,u7 hxp ?_⟩
    refine y8 ⟨⟨42,[(0,.ref 0 0),(4,bA x),(8,.p (.sl 1 (y6 S))),(9,i64 (y6 S).length),(10,i64 j)]⟩,[q9h (y6 S) R long]⟩ (e=true) (q8 (q7 hT ?_)) (fun h1=>?_)
    ·refine x8 (Q1 [0] w rfl rfl rfl) ?_
     refine z6 (x7 (fun h=>?_) (fun h=>?_))
     ·have h:(!e)=true:=h
      rw[(Bool.not_eq_true' _).mp h]at hstep
      refine u0 ?_
      exact⟨_,q9 [0] [0,8,9,10] rfl,long,hstep.symm,rfl⟩
     ·have h:(!e)=false:=h
      exact z9 ⟨q9 [0] [0,4,8,9,10] rfl,(Bool.not_eq_false' _).mp h⟩
    rw[h1]at he hstep
    have hxc:x.length=c:=by
     have:=of_decide_eq_true he.symm
     omega
    refine w6 (fun st=>∃ v:Int,v=c∧st=⟨⟨42,[(0,.ref 0 0),(4,bA x),(8,.p (.sl 1 (y6 S))),(9,i64 (y6 S).length),(10,i64 j)]⟩,[q9h (y6 S) R v]⟩) (q8 (q7 hT ?_)) ?_
    ·refine z6 (x7 (fun h=>?_) (fun h=>?_))
     ·refine q7 hT ?_
      exact⟨_,q9 [0] [0,4,8,9,10] rfl,_,(show (((bx x).length:Nat):Int)=(c:Int) by omega),rfl⟩
     ·have h:(long==0)=false:=h
      have h:=beq_eq_false_iff_ne.mp h
      exact z9 ⟨_,q9 [0] [0,4,8,9,10] rfl,long,by omega,rfl⟩
    rintro _ ⟨v,rfl,rfl⟩
    refine q8 (q7 hT ?_)
    refine z6 (x7 (fun h=>?_) (fun h=>?_))
    ·have h:((((bx x).length:Nat):Int) != (c:Int))=true:=h
     rw[bne_iff_ne]at h
     omega
    ·exact z9 ⟨_,q9 [0] [0,8,9,10] rfl,_,hstep.symm,rfl⟩
   ·rintro _ ⟨long',hl',rfl⟩
    refine q7 hT ?_
    exact⟨n - 1,by omega,_,q9 [0] [0,8,9,10] rfl,k+1,IntKind.i64.wrap (j+1),long',by omega,by rw[x9 _ (by omega) (by omega)];omega,hl',rfl⟩
  ·have h:=of_decide_eq_false (show decide (j<(((y6 S).length:Nat):Int))=false from h)
   rw[List.take_of_length_le (by omega)]at hlong
   rw[← hlong]
   refine u0 ?_
   exact⟨q9 [0] [0] rfl,trivial⟩
 refine q8 (q7 hT ?_)
 refine x6 ?_
 refine y9 [0] ⟨_,?_,rfl,rfl⟩ rfl
 unfold q8b
 split
 ·exact decide_eq_true (by omega)
 ·rfl
def X5 (S:List y7)(most:Nat):Nat→List Nat
 |0=>[]
 |i+1=>match decide ((X5 S most i).length<most)&&decide (0<(S.getD i []).length) with
  |true=>X5 S most i++[i]
  |false=>X5 S most i
theorem q9i (S:List y7)(most:Nat):∀ i,(X5 S most i).length≤i∧(X5 S most i).length≤most
 |0=>⟨Nat.le_refl _,Nat.zero_le _⟩
 |i+1=>by
  obtain⟨a,b⟩:=q9i S most i
  unfold X5
  split
  ·rename_i h
   rw[Bool.and_eq_true,decide_eq_true_eq]at h
   rw[List.length_append,List.length_singleton]
   omega
  ·omega
theorem q3p (S:List y7)(most:Nat):∀ i j,j∈X5 S most i→j<i∧0<(S.getD j []).length
 |0,j,h=>by simp[X5]at h
 |i+1,j,h=>by
  unfold X5 at h
  split at h
  ·rename_i hc
   rw[Bool.and_eq_true,decide_eq_true_eq,decide_eq_true_eq]at hc
   rw[List.mem_append,List.mem_singleton]at h
   rcases h with h|rfl
   ·obtain⟨a,b⟩:=q3p S most i j h
    exact⟨by omega,b⟩
   ·exact⟨Nat.lt_succ_self _,hc.2⟩
  ·obtain⟨a,b⟩:=q3p S most i j h
   exact⟨by omega,b⟩
def ixN (l:List Nat):List (List PV):=l.map fun n:Nat=>([.raw (.int .i64 (n:Int))]:List PV)
theorem w6j (l:List Nat):(ixN l).length=l.length:=by simp[ixN]
theorem v5s (l:List Nat)(n:Nat):ixN (l++[n])=ixN l++[[.raw (.int .i64 (n:Int))]]:=by simp[ixN]
theorem v8h {l:List Nat}{i n:Nat}(h:l[i]?=some n):(ixN l)[i]?=some [.raw (.int .i64 (n:Int))]:=by rw[ixN,List.getElem?_map,h];rfl
abbrev w0m:AV:=.mth (.func z4i) [.ref 0 0]
set_option maxHeartbeats 1000000 in
set_option maxRecDepth 20000 in
theorem v0e (S:List y7)(R:List (List PV))(long:Int)(most:Nat)(hl:S.length≤64)(hm:most≤64) :
 AFm Tryz.prog 1 x8n [i64 S.length,i64 most,w0m] [q9h (y6 S) R long] (Q0 (.p (.sl 1 (ixN (X5 S most S.length)))) [q9h (y6 S) R long]):=by
 have hcl:=Z7 S
 obtain⟨N,hN⟩:∃ N,N=S.length:=⟨_,rfl⟩
 rw[← hN]
 refine Q9 1 hT x8p rfl rfl x8q rfl rfl ?_
 refine q8 (q7 hT ?_)
 refine y8 ⟨⟨28,[(0,i64 N),(1,i64 most),(2,w0m),(7,.msl 1 1 0 0)]⟩,[q9h (y6 S) R long,.row q0m 1 []]⟩ True (q7 hT ?_) (fun _=>?_)
 ·exact⟨Wk.trans (J9 q0m 1) (Wk.trans (q9u 7 1 1 0 rfl) (q9 [0,1] [0,1,2,7] rfl)),trivial⟩
 refine w6 (fun st=>∃ L,L=X5 S most N∧st=⟨⟨28,[(7,.msl 1 1 0 (ixN L).length)]⟩,[q9h (y6 S) R long,.row q0m 1 (ixN L)]⟩) (q8 (q7 hT ?_)) ?_
 ·refine z7 ?_
  refine w7 (fun n s=>∃ (k:Nat) (j:Int) (L:List Nat),n+k=N∧j=k∧L=X5 S most k∧s=⟨⟨28,[(0,i64 N),(1,i64 most),(2,w0m),(7,.msl 1 1 0 (ixN L).length),(9,i64 N),(10,i64 j)]⟩,[q9h (y6 S) R long,.row q0m 1 (ixN L)]⟩) N ⟨⟨28,_⟩,_⟩ (q9 [0,1] [0,1,2,7,9,10] rfl) ⟨0,0,[],by omega,rfl,rfl,rfl⟩ ?_
  rintro n s ⟨k,j,L,hnk,hj,hL,rfl⟩
  have hll:=q9i S most k
  rw[← hL]at hll
  have hil:=w6j L
  refine q8 (q7 hT ?_)
  refine q8 (z6 (x7 (fun h=>?_) (fun h=>?_)))
  ·have h:=of_decide_eq_true (show decide (j<(N:Int))=true from h)
   have hk:k<S.length:=by omega
   refine z9 ?_
   have hx:=List.getElem?_eq_getElem hk
   have hstep:X5 S most (k+1)=match decide (L.length<most)&&decide (0<S[k].length) with|true=>L++[k]|false=>L:=by
    rw[X5,← hL,List.getD_eq_getElem?_getD,hx];rfl
   generalize S[k]=x at hx hstep
   have w:=w0k S R long k x hx
   rw[← hj]at w
   obtain⟨e,he⟩:∃ e,e=decide (0<x.length):=⟨_,rfl⟩
   rw[← he]at w hstep
   have hd:decide (L.length<most)=decide ((((ixN L).length:Nat):Int)<(most:Int)):=by
    by_cases c:L.length<most
    ·rw[decide_eq_true c,decide_eq_true (by omega)]
    ·rw[decide_eq_false c,decide_eq_false (by omega)]
   rw[hd]at hstep
   refine w6 (fun st=>∃ L2,L2=X5 S most (k+1)∧st=⟨⟨28,[(0,i64 N),(1,i64 most),(2,w0m),(7,.msl 1 1 0 (ixN L2).length),(9,i64 N),(10,i64 j)]⟩,[q9h (y6 S) R long,.row q0m 1 (ixN L2)]⟩) (z7 (q8 (q7 hT ?_))) ?_
   ·refine w6 (fun st=>∃ b,b=(decide ((((ixN L).length:Nat):Int)<(most:Int))&&e)∧st=⟨⟨28,[(0,i64 N),(1,i64 most),(2,w0m),(7,.msl 1 1 0 (ixN L).length),(8,i64 j),(9,i64 N),(10,i64 j),(21,bl b)]⟩,[q9h (y6 S) R long,.row q0m 1 (ixN L)]⟩) (q7 hT ?_) ?_
    ·refine x7 (fun h=>?_) (fun h=>?_)
     ·refine x8 (Q1 [0] w rfl rfl rfl) ?_
      exact⟨_,q9 [0,1] [0,1,2,7,8,9,10,21] rfl,e,by rw[show decide ((((ixN L).length:Nat):Int)<(most:Int))=true from h,Bool.true_and],rfl⟩
     ·exact⟨_,q9 [0,1] [0,1,2,7,8,9,10,21] rfl,false,by rw[show decide ((((ixN L).length:Nat):Int)<(most:Int))=false from h,Bool.false_and],rfl⟩
    rintro _ ⟨b,hb,rfl⟩
    rw[← hb]at hstep
    refine z6 (x7 (fun h=>?_) (fun h=>?_))
    ·have h:b=true:=h
     rw[h]at hstep
     refine X6 (fun k=>Nat.beq 2 k) hT ?_
     refine⟨⟨rfl,rfl⟩,?_⟩
     refine⟨rfl,⟨?_,?_⟩,?_⟩
     ·show ((ixN L).length+1)*8≤_
      omega
     ·show (ixN L).length+1≤_
      omega
     refine⟨_,q9 [0,2] [0,1,2,7,9,10] rfl,L++[k],hstep.symm,?_⟩
     rw[v5s,← hj];rfl
    ·have h:b=false:=h
     rw[h]at hstep
     exact z9 ⟨_,q9 [0,1] [0,1,2,7,9,10] rfl,L,hstep.symm,rfl⟩
   ·rintro _ ⟨L2,hL2,rfl⟩
    refine q7 hT ?_
    exact⟨n - 1,by omega,_,q9 [0,1] [0,1,2,7,9,10] rfl,k+1,IntKind.i64.wrap (j+1),L2,by omega,by rw[x9 _ (by omega) (by omega)];omega,hL2,rfl⟩
  ·have h:=of_decide_eq_false (show decide (j<(N:Int))=false from h)
   rw[show k=N by omega]at hL
   refine u0 ?_
   exact⟨_,q9 [0,1] [7] rfl,L,hL,rfl⟩
 rintro _ ⟨L,rfl,rfl⟩
 refine q8 (q7 hT ?_)
 refine Q8 (q0s 6 1 _ rfl rfl rfl rfl) ?_
 refine x6 ?_
 exact y9 [0] ⟨rfl,rfl⟩ rfl
end Go.Proofs.YtinfbclgkghgaaaGreat.AL
namespace Go.Proofs.YtinfbclgkghgaaaGreat.AL
open Go Go.Proofs
def byB (S:List y7)(k m:Nat):List y7:=(X5 S k (k+m)).map fun i=>(J5 k m).getD i []
def ofB (S:List y7)(k m:Nat):List y7:=(X5 S k (k+m)).map fun i=>S.getD i []
def q5s (S:List y7)(k m c:Nat):List y7:=(y0f (byB S k m)).map fun a=>v9 a (ofB S k m) c k
def q8p (S:List y7)(k m c:Nat):List y7 × Int:=match decide ((X5 S k (k+m)).length<k) with
 |true=>([],9)
 |false=>(q5s S k m c++q7f (q5s S k m c) m c,0)
theorem v8i {r:Nat}{L:List y7}(hok:y0d r L=true)(hL:L.length=r)(hr:∀ s∈L,s.length=r):∀ s∈y0f L,s.length=r:=fun s hs=>by
 rw[q9f hL,List.mem_map]at hs
 obtain⟨i,hi,rfl⟩:=hs
 exact(y0e hok hL hr r (Nat.le_refl _)).2 i (List.mem_range.mp hi)
theorem y7j (L:List y7):(y0f L).length=L.length:=by unfold y0f;rw[List.length_map,List.length_range]
set_option maxHeartbeats 2000000 in
set_option maxRecDepth 20000 in
theorem v0f (S:List y7)(k m c:Nat)(k1:1≤k)(k4:k≤4)(m1:1≤m)(m3:m≤3)(c1:1≤c)(c2:c≤4096)(hl:S.length=k+m)(hS:∀ s∈S,s.length=0∨s.length=c)
 (hok:(X5 S k (k+m)).length=k→y0d k (byB S k m)=true) :
 AF Tryz.prog x7x [.p (.sl 1 (y6 S)),i64 k] [] (Q0 (.tup [.p (.sl 1 (y6 (q8p S k m c).1)),i64 (q8p S k m c).2]) []):=by
 refine AF.mono (R:=fun r H'=>∃ z,z=q8p S k m c∧r=.tup [.p (.sl 1 (y6 z.1)),i64 z.2]∧H'=[]) ?_ (by rintro r H' ⟨z,rfl,rfl,rfl⟩;exact⟨rfl,rfl⟩)
 have eD:q8p S k m c=match decide ((X5 S k (k+m)).length<k) with
  |true=>([],9)
  |false=>(q5s S k m c++q7f (q5s S k m c) m c,0):=rfl
 have hcl:=Z7 S
 have hm:IntKind.i64.wrap ((((y6 S).length:Nat):Int) - (k:Int))=(m:Int):=by rw[x9 _ (by omega) (by omega)];omega
 have wr:=w6i k m k1 k4 m1 m3
 have hrl:=y0g k m
 have wmay:=v8g S (y6 (J5 k m)) c c1 c2 (by omega) hS
 have wpk:=v0e S (y6 (J5 k m)) (q8b S c) k (by omega) (by omega)
 rw[hl]at wpk
 have hgl:=q9i S k (k+m)
 have hgm:=q3p S k (k+m)
 have hbyE:byB S k m=(X5 S k (k+m)).map fun i=>(J5 k m).getD i []:=rfl
 have hofE:ofB S k m=(X5 S k (k+m)).map fun i=>S.getD i []:=rfl
 have hdE:q5s S k m c=(y0f (byB S k m)).map fun a=>v9 a (ofB S k m) c k:=rfl
 generalize q8p S k m c=Z at eD
 generalize q8b S c=long at wmay wpk
 generalize q5s S k m c=D at eD hdE
 generalize hby:byB S k m=BY at hbyE hdE hok
 generalize hof:ofB S k m=OF at hofE hdE
 generalize X5 S k (k+m)=G at eD wpk hgl hgm hbyE hofE hok
 have hGc:(((k+m:Nat):Int))=(((y6 S).length:Nat):Int):=by omega
 rw[hGc]at wpk
 have hgi:=w6j G
 have hRc:=Z7 (J5 k m)
 have hRg:=fun(i:Nat) (hi:i<k+m)=>Z2 (List.getElem?_eq_getElem (l:=J5 k m) (i:=i) (by rw[hrl];exact hi))
 have hRd:=fun(i:Nat) (hi:i<k+m)=>(show (J5 k m).getD i []=(J5 k m)[i]'(by rw[hrl];exact hi) by rw[List.getD_eq_getElem?_getD,List.getElem?_eq_getElem (by rw[hrl];exact hi)];rfl)
 have hrow:=@x1s k m
 rw[← hm]at wr
 generalize hRR:y6 (J5 k m)=R at wr wmay wpk hRg hRc
 refine u9 hT x7y rfl rfl x7z rfl ?_
 refine q8 (q7 hT ?_)
 refine y8 ⟨⟨97,[(0,.p (.sl 1 (y6 S))),(1,i64 k),(6,.p (.sl 1 R)),(7,i64 0)]⟩,[]⟩ True (q7 hT ?_) (fun _=>?_)
 ·refine x8 (u5 wr _ rfl rfl) ?_
  exact⟨q9 [] [0,1,6,7] rfl,trivial⟩
 refine y8 ⟨⟨97,[(0,.p (.sl 1 (y6 S))),(1,i64 k),(6,.p (.sl 1 R)),(7,i64 0),(8,.ref 0 0)]⟩,[q9h (y6 S) R 0]⟩ True (q7 hT ?_) (fun _=>?_)
 ·exact⟨q9 [0] [0,1,6,7,8] rfl,trivial⟩
 refine y8 ⟨⟨97,[(0,.p (.sl 1 (y6 S))),(1,i64 k),(6,.p (.sl 1 R)),(8,.ref 0 0)]⟩,[q9h (y6 S) R long]⟩ True (q8 (q7 hT ?_)) (fun _=>?_)
 ·refine x8 (Q1 [0] wmay rfl rfl rfl) ?_
  refine z6 ?_
  exact z9 ⟨q9 [0] [0,1,6,8] rfl,trivial⟩
 refine y8 ⟨⟨97,[(0,.p (.sl 1 (y6 S))),(1,i64 k),(6,.p (.sl 1 R)),(9,.p (.sl 1 (ixN G)))]⟩,[]⟩ True (q7 hT ?_) (fun _=>?_)
 ·refine x8 (Q1 [0] wpk rfl rfl rfl) ?_
  exact⟨q9 [] [0,1,6,9] rfl,trivial⟩
 refine y8 ⟨⟨97,[(0,.p (.sl 1 (y6 S))),(1,i64 k),(6,.p (.sl 1 R)),(9,.p (.sl 1 (ixN G)))]⟩,[]⟩ (G.length=k) (q8 (q7 hT ?_)) ?_
 ·refine z6 (x7 (fun h=>?_) (fun h=>?_))
  ·have h:=of_decide_eq_true (show decide ((((ixN G).length:Nat):Int)<(k:Int))=true from h)
   rw[decide_eq_true (show G.length<k by omega)]at eD
   refine q8 (q7 hT ?_)
   refine Q8 (q3y 4 1 rfl) ?_
   refine x6 ?_
   exact y9 [] ⟨([],9),eD.symm,rfl,rfl⟩ rfl
  ·have h:=of_decide_eq_false (show decide ((((ixN G).length:Nat):Int)<(k:Int))=false from h)
   exact z9 ⟨q9 [] [0,1,6,9] rfl,by omega⟩
 intro hGk
 rw[decide_eq_false (show ¬ G.length<k by omega)]at eD
 have hok:=hok hGk
 have hBl:BY.length=k:=by rw[hbyE,List.length_map,hGk]
 have hOl:OF.length=k:=by rw[hofE,List.length_map,hGk]
 have hBr:∀ s∈BY,s.length=k:=fun s hs=>by
  rw[hbyE,List.mem_map]at hs
  obtain⟨i,hi,rfl⟩:=hs
  have hi2:=(hgm i hi).1
  rw[hRd i hi2]
  exact hrow _ (List.getElem_mem _)
 have hOr:∀ s∈OF,s.length=c:=fun s hs=>by
  rw[hofE,List.mem_map]at hs
  obtain⟨i,hi,rfl⟩:=hs
  obtain⟨hi2,hi3⟩:=hgm i hi
  have hm2:S.getD i []∈S:=by
   rw[List.getD_eq_getElem?_getD,List.getElem?_eq_getElem (show i<S.length by omega)]
   exact List.getElem_mem _
  have:=hS _ hm2
  omega
 have hil:(y0f BY).length=k:=(y7j BY).trans hBl
 have wi:=v5r BY (by omega) (by omega) (by rw[hBl];exact hBr) (by rw[hBl];exact hok)
 have wx:=w9z (y0f BY) OF k c (by omega) (by omega) k1 (by omega) c1 c2 (v8i hok hBl hBr) hOl hOr
 rw[← hdE,hil]at wx
 have hDl:D.length=k:=by rw[hdE,List.length_map,hil]
 have hDr:∀ s∈D,s.length=c:=fun s hs=>by
  rw[hdE,List.mem_map]at hs
  obtain⟨a,_,rfl⟩:=hs
  exact Z4 a hOr (by omega)
 have we:=y7h D m c (by omega) (by omega) m1 m3 c1 c2 hDr
 rw[hDl,← hm]at we
 have hEl:(q7f D m c).length=m:=by unfold q7f;rw[List.length_map,q9g]
 generalize q7f D m c=E at eD we hEl
 generalize y0f BY=V at wi wx
 clear hok hil hdE
 refine y8 ⟨⟨97,[(0,.p (.sl 1 (y6 S))),(1,i64 k),(6,.p (.sl 1 R)),(9,.p (.sl 1 (ixN G))),(10,.msl 0 1 0 0),(11,.msl 1 1 0 0)]⟩,[.row z5 1 [],.row z5 1 []]⟩ True (q7 hT ?_) (fun _=>?_)
 ·exact⟨Wk.trans (J9 z5 1) (Wk.trans (J9 z5 1) (Wk.trans (q9u 10 0 1 0 rfl) (Wk.trans (q9u 11 1 1 0 rfl) (q9 [0,1] [0,1,6,9,10,11] rfl)))),trivial⟩
 refine y8 ⟨⟨97,[(0,.p (.sl 1 (y6 S))),(1,i64 k),(10,.msl 0 1 0 (y6 BY).length),(11,.msl 1 1 0 (y6 OF).length)]⟩,[.row z5 1 (y6 BY),.row z5 1 (y6 OF)]⟩ True (q8 (q7 hT ?_)) (fun _=>?_)
 ·refine z7 ?_
  refine w7 (fun n s=>∃ (i:Nat) (j:Int) (X Y:List y7),n+i=k∧j=i∧X=BY.take i∧Y=OF.take i∧s=⟨⟨97,[(0,.p (.sl 1 (y6 S))),(1,i64 k),(6,.p (.sl 1 R)),(10,.msl 0 1 0 (y6 X).length),(11,.msl 1 1 0 (y6 Y).length),(48,.p (.sl 1 (ixN G))),(49,i64 (ixN G).length),(50,i64 j)]⟩,[.row z5 1 (y6 X),.row z5 1 (y6 Y)]⟩) k ⟨⟨97,_⟩,_⟩ (q9 [0,1] [0,1,6,10,11,48,49,50] rfl) ⟨0,0,[],[],by omega,rfl,rfl,rfl,rfl⟩ ?_
  rintro n s ⟨i,j,X,Y,hni,hj,hX,hY,rfl⟩
  refine q8 (q7 hT ?_)
  refine q8 (z6 (x7 (fun h=>?_) (fun h=>?_)))
  ·have h:=of_decide_eq_true (show decide (j<(((ixN G).length:Nat):Int))=true from h)
   have hi:i<G.length:=by omega
   refine z9 ?_
   have hg:=List.getElem?_eq_getElem hi
   have hgi2:=(hgm _ (List.getElem_mem hi)).1
   have hby2:BY[i]?=some ((J5 k m).getD G[i] []):=by rw[hbyE,List.getElem?_map,hg];rfl
   have hof2:OF[i]?=some (S.getD G[i] []):=by rw[hofE,List.getElem?_map,hg];rfl
   generalize G[i]=a at hg hgi2 hby2 hof2
   have hSa:=List.getElem?_eq_getElem (show a<S.length by omega)
   rw[List.getD_eq_getElem?_getD,hSa]at hof2
   have hof2:OF[i]?=some S[a]:=hof2
   have hSl:=hOr _ (List.mem_of_getElem? hof2)
   generalize S[a]=sa at hSa hof2 hSl
   have hRa:=hRg a hgi2
   rw[← hRd a hgi2]at hRa
   generalize (J5 k m).getD a []=ra at hby2 hRa
   have hX2:BY.take (i+1)=X++[ra]:=by rw[List.take_add_one,hby2,hX];rfl
   have hY2:OF.take (i+1)=Y++[sa]:=by rw[List.take_add_one,hof2,hY];rfl
   have hXl:(y6 X).length≤64:=by rw[Z7,hX,List.length_take];omega
   have hYl:(y6 Y).length≤64:=by rw[Z7,hY,List.length_take];omega
   have hgp:(ixN G)[j.toNat]?=some [.raw (.int .i64 (a:Int))]:=by rw[hj,Int.toNat_natCast];exact v8h hg
   have hRp:R[((a:Nat):Int).toNat]?=some [bP ra]:=by rw[Int.toNat_natCast];exact hRa
   have hSp:(y6 S)[((a:Nat):Int).toNat]?=some [bP sa]:=by rw[Int.toNat_natCast];exact Z2 hSa
   have wc:=z7i sa (by omega)
   refine w6 (fun st=>∃ X' Y':List y7,X'=X++[ra]∧Y'=Y++[sa]∧st=⟨⟨97,[(0,.p (.sl 1 (y6 S))),(1,i64 k),(6,.p (.sl 1 R)),(10,.msl 0 1 0 (y6 X').length),(11,.msl 1 1 0 (y6 Y').length),(48,.p (.sl 1 (ixN G))),(49,i64 (ixN G).length),(50,i64 j)]⟩,[.row z5 1 (y6 X'),.row z5 1 (y6 Y')]⟩) (z7 (q8 (q7 hT ?_))) ?_
   ·refine⟨by omega,u7 hgp ?_⟩
    refine w9 [6,14] [5,13] hT z8 (by rfl) ?_
    refine⟨by omega,u7 hRp ?_⟩
    refine⟨⟨rfl,rfl⟩,?_⟩
    refine⟨rfl,⟨?_,?_⟩,?_⟩
    ·show ((y6 X).length+1)*24≤_
     omega
    ·show (y6 X).length+1≤_
     omega
    refine⟨by omega,u7 hSp ?_⟩
    refine⟨_,u5 wc _ rfl rfl,?_⟩
    refine⟨⟨rfl,rfl⟩,?_⟩
    refine⟨rfl,⟨?_,?_⟩,?_⟩
    ·show ((y6 Y).length+1)*24≤_
     omega
    ·show (y6 Y).length+1≤_
     omega
    repeat first|refine⟨rfl,?_⟩|refine⟨⟨by omega,u7 hRp rfl⟩,?_⟩|refine⟨⟨by omega,u7 hSp rfl⟩,?_⟩|refine⟨⟨_,u5 wc _ rfl rfl,rfl⟩,?_⟩
    exact⟨_,q9 [2,3] [0,1,6,10,11,48,49,50] rfl,_,_,rfl,rfl,by rw[q5r,q5r];rfl⟩
   ·rintro _ ⟨X',Y',rfl,rfl,rfl⟩
    refine q7 hT ?_
    exact⟨n - 1,by omega,_,q9 [0,1] [0,1,6,10,11,48,49,50] rfl,i+1,IntKind.i64.wrap (j+1),_,_,by omega,by rw[x9 _ (by omega) (by omega)];omega,hX2.symm,hY2.symm,rfl⟩
  ·have h:=of_decide_eq_false (show decide (j<(((ixN G).length:Nat):Int))=false from h)
   rw[List.take_of_length_le (by omega)]at hX hY
   rw[hX,hY]
   refine u0 ?_
   exact⟨q9 [0,1] [0,1,10,11] rfl,trivial⟩
 refine Q8 (q0s 10 0 _ rfl rfl rfl rfl) ?_
 refine Q8 (q0s 11 1 _ rfl rfl rfl rfl) ?_
 refine y8 ⟨⟨97,[(0,.p (.sl 1 (y6 S))),(1,i64 k),(7,i64 0),(11,.p (.sl 1 (y6 OF))),(14,.p (.sl 1 (y6 V)))]⟩,[]⟩ True (q7 hT ?_) (fun _=>?_)
 ·refine x8 (u5 wi _ rfl rfl) ?_
  exact⟨q9 [] [0,1,7,11,14] rfl,trivial⟩
 refine q8 (q8 (q7 hT ?_))
 refine z6 ?_
 refine z9 ?_
 refine y8 ⟨⟨97,[(0,.p (.sl 1 (y6 S))),(1,i64 k),(15,.msl 0 1 0 k)]⟩,[.row z5 1 (y6 D)]⟩ True (q7 hT ?_) (fun _=>?_)
 ·refine x8 wx ?_
  exact⟨q9 [0] [0,1,15] rfl,trivial⟩
 refine y8 ⟨⟨97,[(7,i64 0),(15,.msl 0 1 0 k),(17,.p (.sl 1 (y6 E)))]⟩,[.row z5 1 (y6 D)]⟩ True (q7 hT ?_) (fun _=>?_)
 ·refine x8 (Q1 [0] we rfl rfl rfl) ?_
  exact⟨q9 [0] [7,15,17] rfl,trivial⟩
 have hDc:=Z7 D
 have hEc:=Z7 E
 refine q8 (q7 hT ?_)
 refine⟨by omega,⟨by show ((y6 D).length+(y6 E).length)*24≤_;omega,by omega⟩,?_⟩
 refine Q8 (q0s 4 1 _ rfl rfl rfl rfl) ?_
 refine x6 ?_
 exact y9 [] ⟨(D++E,0),eD.symm,(by show AV.tup [.p (.sl 1 (y6 D++y6 E)),i64 0]=_;rw[← q5r]),rfl⟩ rfl
end Go.Proofs.YtinfbclgkghgaaaGreat.AL
