/- A part of the proof. -/
import Derived.Test.YtinfbclgkghgaaaGreatSnapJ
/- The layer 2 (mat): the unit,and the matrix of Cauchy (printed by genmat.py). -/
namespace Go.Proofs.YtinfbclgkghgaaaGreat.AL
open Go Go.Proofs
theorem y7b {f:FuncId}{args:List AV}{M:Nat→y7}{n:Nat}{e:Int}(hM:∀ i,i<1→(M i).length=n)(h:AF Tryz.prog f args [] (Q0 (.tup [.msl 0 1 0 1,i64 e]) [.cells z5 [.msl 1 1 0 n],.row z4 1 (bx (M 0))])):AF Tryz.prog f args [] (Q0 (.tup [.msl 0 1 0 1,i64 e]) [.row z5 1 (y6 [M 0])]):=by
 refine z2x h ?_
 rintro _ _ ⟨rfl,rfl⟩
 refine⟨_,_,?_,rfl,rfl⟩
 refine Wk.trans (U9 1 0 0 n rfl rfl rfl (by rw[u6,hM 0 (by decide)])) ?_
 refine Wk.trans (q1g 0 [bP (M 0)] rfl rfl (show 1≤140737488355328 by decide)) ?_
 exact q9 [0] [0] rfl
theorem x1p {f:FuncId}{args:List AV}{M:Nat→y7}{n:Nat}{e:Int}(hM:∀ i,i<1→(M i).length=n)(h:AF Tryz.prog f args [] (Q0 (.tup [.msl 0 1 0 1,i64 e]) [.cells z5 [.msl 1 1 0 n],.row z4 1 (bx (M 0))])):AF Tryz.prog f args [] (Q0 (.tup [.p (.sl 1 (y6 [M 0])),i64 e]) []):=
 y3d (t:=z5) (sz:=1) (n:=1) (y7b hM h) rfl rfl
theorem y7c {f:FuncId}{args:List AV}{M:Nat→y7}{n:Nat}{e:Int}(hM:∀ i,i<2→(M i).length=n)(h:AF Tryz.prog f args [] (Q0 (.tup [.msl 0 1 0 2,i64 e]) [.cells z5 [.msl 1 1 0 n,.msl 2 1 0 n],.row z4 1 (bx (M 0)),.row z4 1 (bx (M 1))])):AF Tryz.prog f args [] (Q0 (.tup [.msl 0 1 0 2,i64 e]) [.row z5 1 (y6 [M 0,M 1])]):=by
 refine z2x h ?_
 rintro _ _ ⟨rfl,rfl⟩
 refine⟨_,_,?_,rfl,rfl⟩
 refine Wk.trans (U9 1 0 0 n rfl rfl rfl (by rw[u6,hM 0 (by decide)])) ?_
 refine Wk.trans (U9 2 0 1 n rfl rfl rfl (by rw[u6,hM 1 (by decide)])) ?_
 refine Wk.trans (q1g 0 [bP (M 0),bP (M 1)] rfl rfl (show 2≤140737488355328 by decide)) ?_
 exact q9 [0] [0] rfl
theorem x1q {f:FuncId}{args:List AV}{M:Nat→y7}{n:Nat}{e:Int}(hM:∀ i,i<2→(M i).length=n)(h:AF Tryz.prog f args [] (Q0 (.tup [.msl 0 1 0 2,i64 e]) [.cells z5 [.msl 1 1 0 n,.msl 2 1 0 n],.row z4 1 (bx (M 0)),.row z4 1 (bx (M 1))])):AF Tryz.prog f args [] (Q0 (.tup [.p (.sl 1 (y6 [M 0,M 1])),i64 e]) []):=
 y3d (t:=z5) (sz:=1) (n:=2) (y7c hM h) rfl rfl
theorem y7d {f:FuncId}{args:List AV}{M:Nat→y7}{n:Nat}{e:Int}(hM:∀ i,i<3→(M i).length=n)(h:AF Tryz.prog f args [] (Q0 (.tup [.msl 0 1 0 3,i64 e]) [.cells z5 [.msl 1 1 0 n,.msl 2 1 0 n,.msl 3 1 0 n],.row z4 1 (bx (M 0)),.row z4 1 (bx (M 1)),.row z4 1 (bx (M 2))])):AF Tryz.prog f args [] (Q0 (.tup [.msl 0 1 0 3,i64 e]) [.row z5 1 (y6 [M 0,M 1,M 2])]):=by
 refine z2x h ?_
 rintro _ _ ⟨rfl,rfl⟩
 refine⟨_,_,?_,rfl,rfl⟩
 refine Wk.trans (U9 1 0 0 n rfl rfl rfl (by rw[u6,hM 0 (by decide)])) ?_
 refine Wk.trans (U9 2 0 1 n rfl rfl rfl (by rw[u6,hM 1 (by decide)])) ?_
 refine Wk.trans (U9 3 0 2 n rfl rfl rfl (by rw[u6,hM 2 (by decide)])) ?_
 refine Wk.trans (q1g 0 [bP (M 0),bP (M 1),bP (M 2)] rfl rfl (show 3≤140737488355328 by decide)) ?_
 exact q9 [0] [0] rfl
theorem x1r {f:FuncId}{args:List AV}{M:Nat→y7}{n:Nat}{e:Int}(hM:∀ i,i<3→(M i).length=n)(h:AF Tryz.prog f args [] (Q0 (.tup [.msl 0 1 0 3,i64 e]) [.cells z5 [.msl 1 1 0 n,.msl 2 1 0 n,.msl 3 1 0 n],.row z4 1 (bx (M 0)),.row z4 1 (bx (M 1)),.row z4 1 (bx (M 2))])):AF Tryz.prog f args [] (Q0 (.tup [.p (.sl 1 (y6 [M 0,M 1,M 2])),i64 e]) []):=
 y3d (t:=z5) (sz:=1) (n:=3) (y7d hM h) rfl rfl
theorem y7e {f:FuncId}{args:List AV}{M:Nat→y7}{n:Nat}{e:Int}(hM:∀ i,i<4→(M i).length=n)(h:AF Tryz.prog f args [] (Q0 (.tup [.msl 0 1 0 4,i64 e]) [.cells z5 [.msl 1 1 0 n,.msl 2 1 0 n,.msl 3 1 0 n,.msl 4 1 0 n],.row z4 1 (bx (M 0)),.row z4 1 (bx (M 1)),.row z4 1 (bx (M 2)),.row z4 1 (bx (M 3))])):AF Tryz.prog f args [] (Q0 (.tup [.msl 0 1 0 4,i64 e]) [.row z5 1 (y6 [M 0,M 1,M 2,M 3])]):=by
 refine z2x h ?_
 rintro _ _ ⟨rfl,rfl⟩
 refine⟨_,_,?_,rfl,rfl⟩
 refine Wk.trans (U9 1 0 0 n rfl rfl rfl (by rw[u6,hM 0 (by decide)])) ?_
 refine Wk.trans (U9 2 0 1 n rfl rfl rfl (by rw[u6,hM 1 (by decide)])) ?_
 refine Wk.trans (U9 3 0 2 n rfl rfl rfl (by rw[u6,hM 2 (by decide)])) ?_
 refine Wk.trans (U9 4 0 3 n rfl rfl rfl (by rw[u6,hM 3 (by decide)])) ?_
 refine Wk.trans (q1g 0 [bP (M 0),bP (M 1),bP (M 2),bP (M 3)] rfl rfl (show 4≤140737488355328 by decide)) ?_
 exact q9 [0] [0] rfl
theorem w9g {f:FuncId}{args:List AV}{M:Nat→y7}{n:Nat}{e:Int}(hM:∀ i,i<4→(M i).length=n)(h:AF Tryz.prog f args [] (Q0 (.tup [.msl 0 1 0 4,i64 e]) [.cells z5 [.msl 1 1 0 n,.msl 2 1 0 n,.msl 3 1 0 n,.msl 4 1 0 n],.row z4 1 (bx (M 0)),.row z4 1 (bx (M 1)),.row z4 1 (bx (M 2)),.row z4 1 (bx (M 3))])):AF Tryz.prog f args [] (Q0 (.tup [.p (.sl 1 (y6 [M 0,M 1,M 2,M 3])),i64 e]) []):=
 y3d (t:=z5) (sz:=1) (n:=4) (y7e hM h) rfl rfl
set_option maxRecDepth 20000 in
theorem w0b:AF Tryz.prog q2h [i64 1] [] (Q0 (.tup [.msl 0 1 0 1,i64 0]) [.cells z5 [.msl 1 1 0 1],.row z4 1 (bx (Q3 idA 1 0))]):=by
 have ws:=q2a 1 (by decide) (by decide)
 have wf:=z2a q5j 1 (by decide) idA (fun i k _ _=>z3m i k)
 refine u9 hT z3e rfl rfl z3f rfl ?_
 refine q8 (q7 hT ?_)
 refine q8 (q8 (q7 hT ?_))
 refine x8 (u5 ws _ rfl rfl) ?_
 refine z6 ?_
 refine z9 ?_
 refine q8 (q7 hT ?_)
 refine x8 wf ?_
 refine x6 ?_
 exact y9 [0,1] ⟨rfl,rfl⟩ rfl
theorem w9h:AF Tryz.prog q2h [i64 1] [] (Q0 (.tup [.msl 0 1 0 1,i64 0]) [.row z5 1 (y6 [Q3 idA 1 0])]):=y7b (M:=Q3 idA 1) (fun i _=>by unfold Q3;rw[List.length_map,List.length_range]) w0b
set_option maxRecDepth 20000 in
theorem w0c:AF Tryz.prog q2h [i64 2] [] (Q0 (.tup [.msl 0 1 0 2,i64 0]) [.cells z5 [.msl 1 1 0 2,.msl 2 1 0 2],.row z4 1 (bx (Q3 idA 2 0)),.row z4 1 (bx (Q3 idA 2 1))]):=by
 have ws:=q2a 2 (by decide) (by decide)
 have wf:=z2b q5j 2 (by decide) idA (fun i k _ _=>z3m i k)
 refine u9 hT z3e rfl rfl z3f rfl ?_
 refine q8 (q7 hT ?_)
 refine q8 (q8 (q7 hT ?_))
 refine x8 (u5 ws _ rfl rfl) ?_
 refine z6 ?_
 refine z9 ?_
 refine q8 (q7 hT ?_)
 refine x8 wf ?_
 refine x6 ?_
 exact y9 [0,1,2] ⟨rfl,rfl⟩ rfl
theorem w9i:AF Tryz.prog q2h [i64 2] [] (Q0 (.tup [.msl 0 1 0 2,i64 0]) [.row z5 1 (y6 [Q3 idA 2 0,Q3 idA 2 1])]):=y7c (M:=Q3 idA 2) (fun i _=>by unfold Q3;rw[List.length_map,List.length_range]) w0c
set_option maxRecDepth 20000 in
theorem w0d:AF Tryz.prog q2h [i64 3] [] (Q0 (.tup [.msl 0 1 0 3,i64 0]) [.cells z5 [.msl 1 1 0 3,.msl 2 1 0 3,.msl 3 1 0 3],.row z4 1 (bx (Q3 idA 3 0)),.row z4 1 (bx (Q3 idA 3 1)),.row z4 1 (bx (Q3 idA 3 2))]):=by
 have ws:=q2a 3 (by decide) (by decide)
 have wf:=z2c q5j 3 (by decide) idA (fun i k _ _=>z3m i k)
 refine u9 hT z3e rfl rfl z3f rfl ?_
 refine q8 (q7 hT ?_)
 refine q8 (q8 (q7 hT ?_))
 refine x8 (u5 ws _ rfl rfl) ?_
 refine z6 ?_
 refine z9 ?_
 refine q8 (q7 hT ?_)
 refine x8 wf ?_
 refine x6 ?_
 exact y9 [0,1,2,3] ⟨rfl,rfl⟩ rfl
theorem w9j:AF Tryz.prog q2h [i64 3] [] (Q0 (.tup [.msl 0 1 0 3,i64 0]) [.row z5 1 (y6 [Q3 idA 3 0,Q3 idA 3 1,Q3 idA 3 2])]):=y7d (M:=Q3 idA 3) (fun i _=>by unfold Q3;rw[List.length_map,List.length_range]) w0d
set_option maxRecDepth 20000 in
theorem w0e:AF Tryz.prog q2h [i64 4] [] (Q0 (.tup [.msl 0 1 0 4,i64 0]) [.cells z5 [.msl 1 1 0 4,.msl 2 1 0 4,.msl 3 1 0 4,.msl 4 1 0 4],.row z4 1 (bx (Q3 idA 4 0)),.row z4 1 (bx (Q3 idA 4 1)),.row z4 1 (bx (Q3 idA 4 2)),.row z4 1 (bx (Q3 idA 4 3))]):=by
 have ws:=q2a 4 (by decide) (by decide)
 have wf:=z2d q5j 4 (by decide) idA (fun i k _ _=>z3m i k)
 refine u9 hT z3e rfl rfl z3f rfl ?_
 refine q8 (q7 hT ?_)
 refine q8 (q8 (q7 hT ?_))
 refine x8 (u5 ws _ rfl rfl) ?_
 refine z6 ?_
 refine z9 ?_
 refine q8 (q7 hT ?_)
 refine x8 wf ?_
 refine x6 ?_
 exact y9 [0,1,2,3,4] ⟨rfl,rfl⟩ rfl
theorem w9k:AF Tryz.prog q2h [i64 4] [] (Q0 (.tup [.msl 0 1 0 4,i64 0]) [.row z5 1 (y6 [Q3 idA 4 0,Q3 idA 4 1,Q3 idA 4 2,Q3 idA 4 3])]):=y7e (M:=Q3 idA 4) (fun i _=>by unfold Q3;rw[List.length_map,List.length_range]) w0e
set_option maxHeartbeats 1000000 in
set_option maxRecDepth 20000 in
theorem w0f (c:Nat)(c1:1≤c)(c2:c≤64):AF Tryz.prog q4b [i64 1,i64 c] [] (Q0 (.tup [.p (.sl 1 (y6 [Q3 (q7k c) c 0])),i64 0]) []):=by
 refine x1p (M:=Q3 (q7k c) c) (n:=c) (fun i _=>by unfold Q3;rw[List.length_map,List.length_range]) ?_
 have ws:=q2a 1 (by decide) (by decide)
 have wc:=q2a c (by omega) (by omega)
 have wn:=q3e
 have wf:=x5h q4c (.box [.box fP]) (.box [.raw (.int .i64 c)]) c (by omega) (q7k c) (fun i k _ hk=>z0k c i k hk (by omega))
 generalize Q3 (q7k c) c=M at wf ⊢
 unfold q2q at wn
 generalize fP=F at wn wf
 refine u9 hT z0c rfl rfl z0d rfl ?_
 refine q8 (q7 hT ?_)
 refine Q8 (Q6 0 [.raw (.int .i64 c)] rfl rfl) ?_
 refine y8 ⟨⟨20,[(0,i64 1),(3,.p (.box [.raw (.int .i64 c)]))]⟩,[]⟩ True (q8 (q7 hT ?_)) (fun _=>?_)
 ·refine x8 (u5 ws _ rfl rfl) ?_
  refine x8 (u5 wc _ rfl rfl) ?_
  refine z6 ?_
  exact z9 ⟨q9 [] [0,3] rfl,trivial⟩
 refine y8 ⟨⟨20,[(0,i64 1),(3,.p (.box [.raw (.int .i64 c)])),(6,.p (.box [.box F]))]⟩,[]⟩ True (q7 hT ?_) (fun _=>?_)
 ·refine x8 (u5 wn _ rfl rfl) ?_
  exact⟨Wk.trans (Q6 0 [.box F] rfl rfl) (q9 [] [0,3,6] rfl),trivial⟩
 refine q8 (q7 hT ?_)
 refine x8 wf ?_
 refine x6 ?_
 exact y9 [0,1] ⟨rfl,rfl⟩ rfl
set_option maxHeartbeats 1000000 in
set_option maxRecDepth 20000 in
theorem w0g (c:Nat)(c1:1≤c)(c2:c≤64):AF Tryz.prog q4b [i64 2,i64 c] [] (Q0 (.tup [.p (.sl 1 (y6 [Q3 (q7k c) c 0,Q3 (q7k c) c 1])),i64 0]) []):=by
 refine x1q (M:=Q3 (q7k c) c) (n:=c) (fun i _=>by unfold Q3;rw[List.length_map,List.length_range]) ?_
 have ws:=q2a 2 (by decide) (by decide)
 have wc:=q2a c (by omega) (by omega)
 have wn:=q3e
 have wf:=x5i q4c (.box [.box fP]) (.box [.raw (.int .i64 c)]) c (by omega) (q7k c) (fun i k _ hk=>z0k c i k hk (by omega))
 generalize Q3 (q7k c) c=M at wf ⊢
 unfold q2q at wn
 generalize fP=F at wn wf
 refine u9 hT z0c rfl rfl z0d rfl ?_
 refine q8 (q7 hT ?_)
 refine Q8 (Q6 0 [.raw (.int .i64 c)] rfl rfl) ?_
 refine y8 ⟨⟨20,[(0,i64 2),(3,.p (.box [.raw (.int .i64 c)]))]⟩,[]⟩ True (q8 (q7 hT ?_)) (fun _=>?_)
 ·refine x8 (u5 ws _ rfl rfl) ?_
  refine x8 (u5 wc _ rfl rfl) ?_
  refine z6 ?_
  exact z9 ⟨q9 [] [0,3] rfl,trivial⟩
 refine y8 ⟨⟨20,[(0,i64 2),(3,.p (.box [.raw (.int .i64 c)])),(6,.p (.box [.box F]))]⟩,[]⟩ True (q7 hT ?_) (fun _=>?_)
 ·refine x8 (u5 wn _ rfl rfl) ?_
  exact⟨Wk.trans (Q6 0 [.box F] rfl rfl) (q9 [] [0,3,6] rfl),trivial⟩
 refine q8 (q7 hT ?_)
 refine x8 wf ?_
 refine x6 ?_
 exact y9 [0,1,2] ⟨rfl,rfl⟩ rfl
set_option maxHeartbeats 1000000 in
set_option maxRecDepth 20000 in
theorem w0h (c:Nat)(c1:1≤c)(c2:c≤64):AF Tryz.prog q4b [i64 3,i64 c] [] (Q0 (.tup [.p (.sl 1 (y6 [Q3 (q7k c) c 0,Q3 (q7k c) c 1,Q3 (q7k c) c 2])),i64 0]) []):=by
 refine x1r (M:=Q3 (q7k c) c) (n:=c) (fun i _=>by unfold Q3;rw[List.length_map,List.length_range]) ?_
 have ws:=q2a 3 (by decide) (by decide)
 have wc:=q2a c (by omega) (by omega)
 have wn:=q3e
 have wf:=x5j q4c (.box [.box fP]) (.box [.raw (.int .i64 c)]) c (by omega) (q7k c) (fun i k _ hk=>z0k c i k hk (by omega))
 generalize Q3 (q7k c) c=M at wf ⊢
 unfold q2q at wn
 generalize fP=F at wn wf
 refine u9 hT z0c rfl rfl z0d rfl ?_
 refine q8 (q7 hT ?_)
 refine Q8 (Q6 0 [.raw (.int .i64 c)] rfl rfl) ?_
 refine y8 ⟨⟨20,[(0,i64 3),(3,.p (.box [.raw (.int .i64 c)]))]⟩,[]⟩ True (q8 (q7 hT ?_)) (fun _=>?_)
 ·refine x8 (u5 ws _ rfl rfl) ?_
  refine x8 (u5 wc _ rfl rfl) ?_
  refine z6 ?_
  exact z9 ⟨q9 [] [0,3] rfl,trivial⟩
 refine y8 ⟨⟨20,[(0,i64 3),(3,.p (.box [.raw (.int .i64 c)])),(6,.p (.box [.box F]))]⟩,[]⟩ True (q7 hT ?_) (fun _=>?_)
 ·refine x8 (u5 wn _ rfl rfl) ?_
  exact⟨Wk.trans (Q6 0 [.box F] rfl rfl) (q9 [] [0,3,6] rfl),trivial⟩
 refine q8 (q7 hT ?_)
 refine x8 wf ?_
 refine x6 ?_
 exact y9 [0,1,2,3] ⟨rfl,rfl⟩ rfl
end Go.Proofs.YtinfbclgkghgaaaGreat.AL
/- The layer 2 (mat): the product of two matrices (printed by genmat.py). -/
namespace Go.Proofs.YtinfbclgkghgaaaGreat.AL
open Go Go.Proofs
def v9 (a:y7)(B:List y7)(c:Nat):Nat→y7
 |0=>List.replicate c 0
 |k+1=>Y7 (v9 a B c k) (B.getD k []) (a.getD k 0)
theorem Z4 {B:List y7}(a:y7){c:Nat}(hB:∀ s∈B,s.length=c):∀ {k:Nat},k≤B.length→(v9 a B c k).length=c
 |0,_=>List.length_replicate
 |k+1,h=>by
  have ih:=Z4 (B:=B) a hB (k:=k) (by omega)
  have hk:=List.getElem?_eq_getElem (show k<B.length by omega)
  have hl:=hB _ (List.getElem_mem (show k<B.length by omega))
  rw[v9,q7d _ (by rw[ih,List.getD_eq_getElem?_getD,hk];exact hl.symm),ih]
theorem W7 {a:y7}{B:List y7}(c:Nat){k:Nat}{x:UInt8}{b:y7}(ha:a[k]?=some x)(hb:B[k]?=some b):v9 a B c (k+1)=Y7 (v9 a B c k) b x:=by
 rw[v9,List.getD_eq_getElem?_getD,List.getD_eq_getElem?_getD,ha,hb];rfl
theorem q3n (a:y7)(B:List y7)(c i:Nat):Q3 (fun _ _=>0) c i=v9 a B c 0:=by
 unfold Q3 v9
 rw[List.map_const',List.length_range]
set_option maxHeartbeats 4000000 in
set_option maxRecDepth 20000 in
theorem w9m (a0:y7)(B:List y7)(q c:Nat)(q1:1≤q)(q2:q≤64)(c1:1≤c)(c2:c≤4096)(hA:∀ s∈([a0]:List y7),s.length=q)(hB:B.length=q)(hBc:∀ s∈B,s.length=c) :
 AF Tryz.prog J7 [.p (.sl 1 (y6 [a0])),.p (.sl 1 (y6 B))] [] (Q0 (.tup [.msl 0 1 0 1,i64 0]) [.cells z5 [.msl 1 1 0 c],.row z4 1 (bx (v9 a0 B c q))]):=by
 have wA:=J1 [a0] q (show 1≤1 by decide) (show 1≤64 by decide) q1 (by omega) hA
 have wB:=J1 B c (by omega) (by omega) c1 c2 hBc
 have wn:=q3e
 have hcl:=Z7 B
 have h0:=List.getElem?_eq_getElem (show 0<B.length by omega)
 have hc0:=hBc _ (List.getElem_mem (show 0<B.length by omega))
 generalize B[0]=b0 at h0 hc0
 have hx0:(y6 B)[(0:Int).toNat]?=some [bP b0]:=Z2 h0
 have hb0:=u6 b0
 have wf:=z2a q0p (bx b0).length (by omega) (fun _ _=>0) (fun i k _ _=>q3m i k)
 have ha0:a0.length=q:=hA a0 (by simp)
 have hx10:=u6 a0
 have wadd:=fun(to row:y7) (x:UInt8) (ht:to.length=c) (hr:row.length=c)=>q5q to row x (by omega) (by omega)
 unfold q2q at wn wadd
 generalize fP=F at wn wadd
 refine u9 hT q3i rfl rfl q3j rfl ?_
 refine q8 (q7 hT ?_)
 refine y8 ⟨⟨65,[(0,.p (.sl 1 (y6 [a0]))),(1,.p (.sl 1 (y6 B)))]⟩,[]⟩ True (q8 (q7 hT ?_)) (fun _=>?_)
 ·refine x8 (u5 wA _ rfl rfl) ?_
  refine x8 (u5 wB _ rfl rfl) ?_
  refine⟨by decide,u7 rfl ?_⟩
  refine z6 (x7 (fun h=>?_) (fun h=>?_))
  ·have h:((((bx a0).length:Nat):Int) != (((y6 B).length:Nat):Int))=true:=h
   rw[bne_iff_ne]at h
   omega
  exact z9 ⟨q9 [] [0,1] rfl,trivial⟩
 refine q8 (q7 hT ?_)
 refine x8 (u5 wn _ rfl rfl) ?_
 refine w6 (fun st=>∃ c',c'=c∧st=⟨⟨65,[(0,.p (.sl 1 (y6 [a0]))),(1,.p (.sl 1 (y6 B))),(6,.p (.box F)),(7,.msl 0 1 0 1)]⟩,[.cells z5 [.msl 1 1 0 c'],.row z4 1 (bx (Q3 (fun _ _=>0) c' 0))]⟩) (q7 hT ?_) ?_
 ·refine⟨by decide,u7 hx0 ?_⟩
  refine x8 wf ?_
  exact⟨_,q9 [0,1] [0,1,6,7] rfl,_,hb0.trans hc0,rfl⟩
 rintro _ ⟨c,rfl,rfl⟩
 clear wf
 refine y8 ⟨⟨65,[(7,.msl 0 1 0 1)]⟩,[.cells z5 [.msl 1 1 0 c],.row z4 1 (bx (v9 a0 B c q))]⟩ True (q8 (q7 hT ?_)) (fun _=>?_)
 ·refine z7 ?_
  refine w7 (fun n s=>(n=1∧s=⟨⟨65,[(0,.p (.sl 1 (y6 [a0]))),(1,.p (.sl 1 (y6 B))),(6,.p (.box F)),(7,.msl 0 1 0 1),(37,.p (.sl 1 (y6 [a0]))),(38,i64 1),(39,i64 0)]⟩,[.cells z5 [.msl 1 1 0 c],.row z4 1 (bx (v9 a0 B c 0))]⟩)∨(n=0∧s=⟨⟨65,[(0,.p (.sl 1 (y6 [a0]))),(1,.p (.sl 1 (y6 B))),(6,.p (.box F)),(7,.msl 0 1 0 1),(37,.p (.sl 1 (y6 [a0]))),(38,i64 1),(39,i64 1)]⟩,[.cells z5 [.msl 1 1 0 c],.row z4 1 (bx (v9 a0 B c q))]⟩)) 1 ⟨⟨65,_⟩,_⟩ (q9 [0,1] [0,1,6,7,37,38,39] rfl) (.inl ⟨rfl,by rw[q3n a0 B c 0];rfl⟩) ?_
  rintro n s (⟨rfl,rfl⟩|⟨rfl,rfl⟩)
  ·refine q8 (q7 hT ?_)
   refine q8 (z6 ?_)
   refine z9 ?_
   refine y8 ⟨⟨65,[(0,.p (.sl 1 (y6 [a0]))),(1,.p (.sl 1 (y6 B))),(6,.p (.box F)),(7,.msl 0 1 0 1),(37,.p (.sl 1 (y6 [a0]))),(38,i64 1),(8,i64 0),(39,i64 0)]⟩,[.cells z5 [.msl 1 1 0 c],.row z4 1 (bx (v9 a0 B c q))]⟩ True (z7 ?_) (fun _=>?_)
   ·refine q8 (q7 hT ?_)
    refine⟨by decide,u7 rfl ?_⟩
    refine q8 (q7 hT ?_)
    refine z7 ?_
    refine w7 (fun n s=>∃ (k:Nat) (j:Int),n+k=q∧j=k∧s=⟨⟨65,[(0,.p (.sl 1 (y6 [a0]))),(1,.p (.sl 1 (y6 B))),(6,.p (.box F)),(7,.msl 0 1 0 1),(37,.p (.sl 1 (y6 [a0]))),(38,i64 1),(8,i64 0),(39,i64 0),(44,bA a0),(45,i64 (bx a0).length),(46,i64 j)]⟩,[.cells z5 [.msl 1 1 0 c],.row z4 1 (bx (v9 a0 B c k))]⟩) q ⟨⟨65,_⟩,_⟩ (q9 [0,1] [0,1,6,7,37,38,8,39,44,45,46] rfl) ⟨0,0,by omega,rfl,rfl⟩ ?_
    rintro n2 s ⟨k,j,hnk,hj,rfl⟩
    refine q8 (q7 hT ?_)
    refine q8 (z6 (x7 (fun h=>?_) (fun h=>?_)))
    ·have h:=of_decide_eq_true (show decide (j<(((bx a0).length:Nat):Int))=true from h)
     have hk:k<a0.length:=by omega
     have hkB:k<B.length:=by omega
     refine z9 ?_
     have hxa:=List.getElem?_eq_getElem hk
     have hxb:=List.getElem?_eq_getElem hkB
     have hst:=W7 c hxa hxb
     have hlb:=hBc _ (List.getElem_mem hkB)
     generalize a0[k]=x at hxa hst
     generalize B[k]=b at hxb hst hlb
     have hxp:(bx a0)[j.toNat]?=some [u8 x]:=by rw[hj,Int.toNat_natCast];exact Q7 hxa
     have hbp:(y6 B)[j.toNat]?=some [bP b]:=by rw[hj,Int.toNat_natCast];exact Z2 hxb
     have hml:=Z4 (B:=B) a0 hBc (k:=k) (by omega)
     have w:=wadd (v9 a0 B c k) b x hml hlb
     rw[hml,← hst]at w
     refine y8 ⟨⟨65,[(0,.p (.sl 1 (y6 [a0]))),(1,.p (.sl 1 (y6 B))),(6,.p (.box F)),(7,.msl 0 1 0 1),(37,.p (.sl 1 (y6 [a0]))),(38,i64 1),(8,i64 0),(39,i64 0),(44,bA a0),(45,i64 (bx a0).length),(46,i64 j)]⟩,[.cells z5 [.msl 1 1 0 c],.row z4 1 (bx (v9 a0 B c (k+1)))]⟩ True (z7 (q8 (q7 hT ?_))) (fun _=>?_)
     ·refine⟨by omega,u7 hxp ?_⟩
      refine w9 [10] [] hT z8 (by rfl) ?_
      refine⟨by decide,?_⟩
      refine⟨by omega,u7 hbp ?_⟩
      refine⟨_,_,Q1 [1] w rfl rfl rfl,?_⟩
      repeat first|refine⟨rfl,?_⟩|refine⟨⟨by decide,rfl⟩,?_⟩|refine⟨⟨by omega,u7 hbp rfl⟩,?_⟩
      exact⟨q9 [0,1] [0,1,6,7,37,38,8,39,44,45,46] rfl,trivial⟩
     ·refine q7 hT ?_
      exact⟨n2 - 1,by omega,_,q9 [0,1] [0,1,6,7,37,38,8,39,44,45,46] rfl,k+1,IntKind.i64.wrap (j+1),by omega,by rw[x9 _ (by omega) (by omega)];omega,rfl⟩
    ·have h:=of_decide_eq_false (show decide (j<(((bx a0).length:Nat):Int))=false from h)
     rw[show k=q by omega]
     refine u0 ?_
     exact⟨q9 [0,1] [0,1,6,7,37,38,8,39] rfl,trivial⟩
   ·refine q7 hT ?_
    exact⟨0,by decide,_,q9 [0,1] [0,1,6,7,37,38,39] rfl,(.inr ⟨rfl,rfl⟩)⟩
  ·refine q8 (q7 hT ?_)
   refine q8 (z6 ?_)
   refine u0 ?_
   exact⟨q9 [0,1] [7] rfl,trivial⟩
 refine q8 (q7 hT ?_)
 refine x6 ?_
 exact y9 [0,1] ⟨rfl,rfl⟩ rfl
theorem w9n (a0:y7)(B:List y7)(q c:Nat)(q1:1≤q)(q2:q≤64)(c1:1≤c)(c2:c≤4096)(hA:∀ s∈([a0]:List y7),s.length=q)(hB:B.length=q)(hBc:∀ s∈B,s.length=c) :
 AF Tryz.prog J7 [.p (.sl 1 (y6 [a0])),.p (.sl 1 (y6 B))] [] (Q0 (.tup [.msl 0 1 0 1,i64 0]) [.row z5 1 (y6 [v9 a0 B c q])]):=by
 refine y7b (M:=fun i=>([v9 a0 B c q]:List y7).getD i []) (n:=c) (fun i hi=>?_) (w9m a0 B q c q1 q2 c1 c2 hA hB hBc)
 have:i=0:=by omega
 rcases this with rfl <;> exact Z4 _ hBc (by omega)
set_option maxHeartbeats 4000000 in
set_option maxRecDepth 20000 in
theorem w9p (a0 a1:y7)(B:List y7)(q c:Nat)(q1:1≤q)(q2:q≤64)(c1:1≤c)(c2:c≤4096)(hA:∀ s∈([a0,a1]:List y7),s.length=q)(hB:B.length=q)(hBc:∀ s∈B,s.length=c) :
 AF Tryz.prog J7 [.p (.sl 1 (y6 [a0,a1])),.p (.sl 1 (y6 B))] [] (Q0 (.tup [.msl 0 1 0 2,i64 0]) [.cells z5 [.msl 1 1 0 c,.msl 2 1 0 c],.row z4 1 (bx (v9 a0 B c q)),.row z4 1 (bx (v9 a1 B c q))]):=by
 have wA:=J1 [a0,a1] q (show 1≤2 by decide) (show 2≤64 by decide) q1 (by omega) hA
 have wB:=J1 B c (by omega) (by omega) c1 c2 hBc
 have wn:=q3e
 have hcl:=Z7 B
 have h0:=List.getElem?_eq_getElem (show 0<B.length by omega)
 have hc0:=hBc _ (List.getElem_mem (show 0<B.length by omega))
 generalize B[0]=b0 at h0 hc0
 have hx0:(y6 B)[(0:Int).toNat]?=some [bP b0]:=Z2 h0
 have hb0:=u6 b0
 have wf:=z2b q0p (bx b0).length (by omega) (fun _ _=>0) (fun i k _ _=>q3m i k)
 have ha0:a0.length=q:=hA a0 (by simp)
 have hx10:=u6 a0
 have ha1:a1.length=q:=hA a1 (by simp)
 have hx11:=u6 a1
 have wadd:=fun(to row:y7) (x:UInt8) (ht:to.length=c) (hr:row.length=c)=>q5q to row x (by omega) (by omega)
 unfold q2q at wn wadd
 generalize fP=F at wn wadd
 refine u9 hT q3i rfl rfl q3j rfl ?_
 refine q8 (q7 hT ?_)
 refine y8 ⟨⟨65,[(0,.p (.sl 1 (y6 [a0,a1]))),(1,.p (.sl 1 (y6 B)))]⟩,[]⟩ True (q8 (q7 hT ?_)) (fun _=>?_)
 ·refine x8 (u5 wA _ rfl rfl) ?_
  refine x8 (u5 wB _ rfl rfl) ?_
  refine⟨by decide,u7 rfl ?_⟩
  refine z6 (x7 (fun h=>?_) (fun h=>?_))
  ·have h:((((bx a0).length:Nat):Int) != (((y6 B).length:Nat):Int))=true:=h
   rw[bne_iff_ne]at h
   omega
  exact z9 ⟨q9 [] [0,1] rfl,trivial⟩
 refine q8 (q7 hT ?_)
 refine x8 (u5 wn _ rfl rfl) ?_
 refine w6 (fun st=>∃ c',c'=c∧st=⟨⟨65,[(0,.p (.sl 1 (y6 [a0,a1]))),(1,.p (.sl 1 (y6 B))),(6,.p (.box F)),(7,.msl 0 1 0 2)]⟩,[.cells z5 [.msl 1 1 0 c',.msl 2 1 0 c'],.row z4 1 (bx (Q3 (fun _ _=>0) c' 0)),.row z4 1 (bx (Q3 (fun _ _=>0) c' 1))]⟩) (q7 hT ?_) ?_
 ·refine⟨by decide,u7 hx0 ?_⟩
  refine x8 wf ?_
  exact⟨_,q9 [0,1,2] [0,1,6,7] rfl,_,hb0.trans hc0,rfl⟩
 rintro _ ⟨c,rfl,rfl⟩
 clear wf
 refine y8 ⟨⟨65,[(7,.msl 0 1 0 2)]⟩,[.cells z5 [.msl 1 1 0 c,.msl 2 1 0 c],.row z4 1 (bx (v9 a0 B c q)),.row z4 1 (bx (v9 a1 B c q))]⟩ True (q8 (q7 hT ?_)) (fun _=>?_)
 ·refine z7 ?_
  refine w7 (fun n s=>(n=2∧s=⟨⟨65,[(0,.p (.sl 1 (y6 [a0,a1]))),(1,.p (.sl 1 (y6 B))),(6,.p (.box F)),(7,.msl 0 1 0 2),(37,.p (.sl 1 (y6 [a0,a1]))),(38,i64 2),(39,i64 0)]⟩,[.cells z5 [.msl 1 1 0 c,.msl 2 1 0 c],.row z4 1 (bx (v9 a0 B c 0)),.row z4 1 (bx (v9 a1 B c 0))]⟩)∨(n=1∧s=⟨⟨65,[(0,.p (.sl 1 (y6 [a0,a1]))),(1,.p (.sl 1 (y6 B))),(6,.p (.box F)),(7,.msl 0 1 0 2),(37,.p (.sl 1 (y6 [a0,a1]))),(38,i64 2),(39,i64 1)]⟩,[.cells z5 [.msl 1 1 0 c,.msl 2 1 0 c],.row z4 1 (bx (v9 a0 B c q)),.row z4 1 (bx (v9 a1 B c 0))]⟩)∨(n=0∧s=⟨⟨65,[(0,.p (.sl 1 (y6 [a0,a1]))),(1,.p (.sl 1 (y6 B))),(6,.p (.box F)),(7,.msl 0 1 0 2),(37,.p (.sl 1 (y6 [a0,a1]))),(38,i64 2),(39,i64 2)]⟩,[.cells z5 [.msl 1 1 0 c,.msl 2 1 0 c],.row z4 1 (bx (v9 a0 B c q)),.row z4 1 (bx (v9 a1 B c q))]⟩)) 2 ⟨⟨65,_⟩,_⟩ (q9 [0,1,2] [0,1,6,7,37,38,39] rfl) (.inl ⟨rfl,by rw[q3n a0 B c 0,q3n a1 B c 1];rfl⟩) ?_
  rintro n s (⟨rfl,rfl⟩|⟨rfl,rfl⟩|⟨rfl,rfl⟩)
  ·refine q8 (q7 hT ?_)
   refine q8 (z6 ?_)
   refine z9 ?_
   refine y8 ⟨⟨65,[(0,.p (.sl 1 (y6 [a0,a1]))),(1,.p (.sl 1 (y6 B))),(6,.p (.box F)),(7,.msl 0 1 0 2),(37,.p (.sl 1 (y6 [a0,a1]))),(38,i64 2),(8,i64 0),(39,i64 0)]⟩,[.cells z5 [.msl 1 1 0 c,.msl 2 1 0 c],.row z4 1 (bx (v9 a0 B c q)),.row z4 1 (bx (v9 a1 B c 0))]⟩ True (z7 ?_) (fun _=>?_)
   ·refine q8 (q7 hT ?_)
    refine⟨by decide,u7 rfl ?_⟩
    refine q8 (q7 hT ?_)
    refine z7 ?_
    refine w7 (fun n s=>∃ (k:Nat) (j:Int),n+k=q∧j=k∧s=⟨⟨65,[(0,.p (.sl 1 (y6 [a0,a1]))),(1,.p (.sl 1 (y6 B))),(6,.p (.box F)),(7,.msl 0 1 0 2),(37,.p (.sl 1 (y6 [a0,a1]))),(38,i64 2),(8,i64 0),(39,i64 0),(44,bA a0),(45,i64 (bx a0).length),(46,i64 j)]⟩,[.cells z5 [.msl 1 1 0 c,.msl 2 1 0 c],.row z4 1 (bx (v9 a0 B c k)),.row z4 1 (bx (v9 a1 B c 0))]⟩) q ⟨⟨65,_⟩,_⟩ (q9 [0,1,2] [0,1,6,7,37,38,8,39,44,45,46] rfl) ⟨0,0,by omega,rfl,rfl⟩ ?_
    rintro n2 s ⟨k,j,hnk,hj,rfl⟩
    refine q8 (q7 hT ?_)
    refine q8 (z6 (x7 (fun h=>?_) (fun h=>?_)))
    ·have h:=of_decide_eq_true (show decide (j<(((bx a0).length:Nat):Int))=true from h)
     have hk:k<a0.length:=by omega
     have hkB:k<B.length:=by omega
     refine z9 ?_
     have hxa:=List.getElem?_eq_getElem hk
     have hxb:=List.getElem?_eq_getElem hkB
     have hst:=W7 c hxa hxb
     have hlb:=hBc _ (List.getElem_mem hkB)
     generalize a0[k]=x at hxa hst
     generalize B[k]=b at hxb hst hlb
     have hxp:(bx a0)[j.toNat]?=some [u8 x]:=by rw[hj,Int.toNat_natCast];exact Q7 hxa
     have hbp:(y6 B)[j.toNat]?=some [bP b]:=by rw[hj,Int.toNat_natCast];exact Z2 hxb
     have hml:=Z4 (B:=B) a0 hBc (k:=k) (by omega)
     have w:=wadd (v9 a0 B c k) b x hml hlb
     rw[hml,← hst]at w
     refine y8 ⟨⟨65,[(0,.p (.sl 1 (y6 [a0,a1]))),(1,.p (.sl 1 (y6 B))),(6,.p (.box F)),(7,.msl 0 1 0 2),(37,.p (.sl 1 (y6 [a0,a1]))),(38,i64 2),(8,i64 0),(39,i64 0),(44,bA a0),(45,i64 (bx a0).length),(46,i64 j)]⟩,[.cells z5 [.msl 1 1 0 c,.msl 2 1 0 c],.row z4 1 (bx (v9 a0 B c (k+1))),.row z4 1 (bx (v9 a1 B c 0))]⟩ True (z7 (q8 (q7 hT ?_))) (fun _=>?_)
     ·refine⟨by omega,u7 hxp ?_⟩
      refine w9 [10] [] hT z8 (by rfl) ?_
      refine⟨by decide,?_⟩
      refine⟨by omega,u7 hbp ?_⟩
      refine⟨_,_,Q1 [1] w rfl rfl rfl,?_⟩
      repeat first|refine⟨rfl,?_⟩|refine⟨⟨by decide,rfl⟩,?_⟩|refine⟨⟨by omega,u7 hbp rfl⟩,?_⟩
      exact⟨q9 [0,1,2] [0,1,6,7,37,38,8,39,44,45,46] rfl,trivial⟩
     ·refine q7 hT ?_
      exact⟨n2 - 1,by omega,_,q9 [0,1,2] [0,1,6,7,37,38,8,39,44,45,46] rfl,k+1,IntKind.i64.wrap (j+1),by omega,by rw[x9 _ (by omega) (by omega)];omega,rfl⟩
    ·have h:=of_decide_eq_false (show decide (j<(((bx a0).length:Nat):Int))=false from h)
     rw[show k=q by omega]
     refine u0 ?_
     exact⟨q9 [0,1,2] [0,1,6,7,37,38,8,39] rfl,trivial⟩
   ·refine q7 hT ?_
    exact⟨1,by decide,_,q9 [0,1,2] [0,1,6,7,37,38,39] rfl,(.inr (.inl ⟨rfl,rfl⟩))⟩
  ·refine q8 (q7 hT ?_)
   refine q8 (z6 ?_)
   refine z9 ?_
   refine y8 ⟨⟨65,[(0,.p (.sl 1 (y6 [a0,a1]))),(1,.p (.sl 1 (y6 B))),(6,.p (.box F)),(7,.msl 0 1 0 2),(37,.p (.sl 1 (y6 [a0,a1]))),(38,i64 2),(8,i64 1),(39,i64 1)]⟩,[.cells z5 [.msl 1 1 0 c,.msl 2 1 0 c],.row z4 1 (bx (v9 a0 B c q)),.row z4 1 (bx (v9 a1 B c q))]⟩ True (z7 ?_) (fun _=>?_)
   ·refine q8 (q7 hT ?_)
    refine⟨by decide,u7 rfl ?_⟩
    refine q8 (q7 hT ?_)
    refine z7 ?_
    refine w7 (fun n s=>∃ (k:Nat) (j:Int),n+k=q∧j=k∧s=⟨⟨65,[(0,.p (.sl 1 (y6 [a0,a1]))),(1,.p (.sl 1 (y6 B))),(6,.p (.box F)),(7,.msl 0 1 0 2),(37,.p (.sl 1 (y6 [a0,a1]))),(38,i64 2),(8,i64 1),(39,i64 1),(44,bA a1),(45,i64 (bx a1).length),(46,i64 j)]⟩,[.cells z5 [.msl 1 1 0 c,.msl 2 1 0 c],.row z4 1 (bx (v9 a0 B c q)),.row z4 1 (bx (v9 a1 B c k))]⟩) q ⟨⟨65,_⟩,_⟩ (q9 [0,1,2] [0,1,6,7,37,38,8,39,44,45,46] rfl) ⟨0,0,by omega,rfl,rfl⟩ ?_
    rintro n2 s ⟨k,j,hnk,hj,rfl⟩
    refine q8 (q7 hT ?_)
    refine q8 (z6 (x7 (fun h=>?_) (fun h=>?_)))
    ·have h:=of_decide_eq_true (show decide (j<(((bx a1).length:Nat):Int))=true from h)
     have hk:k<a1.length:=by omega
     have hkB:k<B.length:=by omega
     refine z9 ?_
     have hxa:=List.getElem?_eq_getElem hk
     have hxb:=List.getElem?_eq_getElem hkB
     have hst:=W7 c hxa hxb
     have hlb:=hBc _ (List.getElem_mem hkB)
     generalize a1[k]=x at hxa hst
     generalize B[k]=b at hxb hst hlb
     have hxp:(bx a1)[j.toNat]?=some [u8 x]:=by rw[hj,Int.toNat_natCast];exact Q7 hxa
     have hbp:(y6 B)[j.toNat]?=some [bP b]:=by rw[hj,Int.toNat_natCast];exact Z2 hxb
     have hml:=Z4 (B:=B) a1 hBc (k:=k) (by omega)
     have w:=wadd (v9 a1 B c k) b x hml hlb
     rw[hml,← hst]at w
     refine y8 ⟨⟨65,[(0,.p (.sl 1 (y6 [a0,a1]))),(1,.p (.sl 1 (y6 B))),(6,.p (.box F)),(7,.msl 0 1 0 2),(37,.p (.sl 1 (y6 [a0,a1]))),(38,i64 2),(8,i64 1),(39,i64 1),(44,bA a1),(45,i64 (bx a1).length),(46,i64 j)]⟩,[.cells z5 [.msl 1 1 0 c,.msl 2 1 0 c],.row z4 1 (bx (v9 a0 B c q)),.row z4 1 (bx (v9 a1 B c (k+1)))]⟩ True (z7 (q8 (q7 hT ?_))) (fun _=>?_)
     ·refine⟨by omega,u7 hxp ?_⟩
      refine w9 [10] [] hT z8 (by rfl) ?_
      refine⟨by decide,?_⟩
      refine⟨by omega,u7 hbp ?_⟩
      refine⟨_,_,Q1 [2] w rfl rfl rfl,?_⟩
      repeat first|refine⟨rfl,?_⟩|refine⟨⟨by decide,rfl⟩,?_⟩|refine⟨⟨by omega,u7 hbp rfl⟩,?_⟩
      exact⟨q9 [0,1,2] [0,1,6,7,37,38,8,39,44,45,46] rfl,trivial⟩
     ·refine q7 hT ?_
      exact⟨n2 - 1,by omega,_,q9 [0,1,2] [0,1,6,7,37,38,8,39,44,45,46] rfl,k+1,IntKind.i64.wrap (j+1),by omega,by rw[x9 _ (by omega) (by omega)];omega,rfl⟩
    ·have h:=of_decide_eq_false (show decide (j<(((bx a1).length:Nat):Int))=false from h)
     rw[show k=q by omega]
     refine u0 ?_
     exact⟨q9 [0,1,2] [0,1,6,7,37,38,8,39] rfl,trivial⟩
   ·refine q7 hT ?_
    exact⟨0,by decide,_,q9 [0,1,2] [0,1,6,7,37,38,39] rfl,(.inr (.inr ⟨rfl,rfl⟩))⟩
  ·refine q8 (q7 hT ?_)
   refine q8 (z6 ?_)
   refine u0 ?_
   exact⟨q9 [0,1,2] [7] rfl,trivial⟩
 refine q8 (q7 hT ?_)
 refine x6 ?_
 exact y9 [0,1,2] ⟨rfl,rfl⟩ rfl
theorem w9q (a0 a1:y7)(B:List y7)(q c:Nat)(q1:1≤q)(q2:q≤64)(c1:1≤c)(c2:c≤4096)(hA:∀ s∈([a0,a1]:List y7),s.length=q)(hB:B.length=q)(hBc:∀ s∈B,s.length=c) :
 AF Tryz.prog J7 [.p (.sl 1 (y6 [a0,a1])),.p (.sl 1 (y6 B))] [] (Q0 (.tup [.msl 0 1 0 2,i64 0]) [.row z5 1 (y6 [v9 a0 B c q,v9 a1 B c q])]):=by
 refine y7c (M:=fun i=>([v9 a0 B c q,v9 a1 B c q]:List y7).getD i []) (n:=c) (fun i hi=>?_) (w9p a0 a1 B q c q1 q2 c1 c2 hA hB hBc)
 have:i=0∨i=1:=by omega
 rcases this with rfl|rfl <;> exact Z4 _ hBc (by omega)
set_option maxHeartbeats 4000000 in
set_option maxRecDepth 20000 in
theorem w9r (a0 a1 a2:y7)(B:List y7)(q c:Nat)(q1:1≤q)(q2:q≤64)(c1:1≤c)(c2:c≤4096)(hA:∀ s∈([a0,a1,a2]:List y7),s.length=q)(hB:B.length=q)(hBc:∀ s∈B,s.length=c) :
 AF Tryz.prog J7 [.p (.sl 1 (y6 [a0,a1,a2])),.p (.sl 1 (y6 B))] [] (Q0 (.tup [.msl 0 1 0 3,i64 0]) [.cells z5 [.msl 1 1 0 c,.msl 2 1 0 c,.msl 3 1 0 c],.row z4 1 (bx (v9 a0 B c q)),.row z4 1 (bx (v9 a1 B c q)),.row z4 1 (bx (v9 a2 B c q))]):=by
 have wA:=J1 [a0,a1,a2] q (show 1≤3 by decide) (show 3≤64 by decide) q1 (by omega) hA
 have wB:=J1 B c (by omega) (by omega) c1 c2 hBc
 have wn:=q3e
 have hcl:=Z7 B
 have h0:=List.getElem?_eq_getElem (show 0<B.length by omega)
 have hc0:=hBc _ (List.getElem_mem (show 0<B.length by omega))
 generalize B[0]=b0 at h0 hc0
 have hx0:(y6 B)[(0:Int).toNat]?=some [bP b0]:=Z2 h0
 have hb0:=u6 b0
 have wf:=z2c q0p (bx b0).length (by omega) (fun _ _=>0) (fun i k _ _=>q3m i k)
 have ha0:a0.length=q:=hA a0 (by simp)
 have hx10:=u6 a0
 have ha1:a1.length=q:=hA a1 (by simp)
 have hx11:=u6 a1
 have ha2:a2.length=q:=hA a2 (by simp)
 have hx12:=u6 a2
 have wadd:=fun(to row:y7) (x:UInt8) (ht:to.length=c) (hr:row.length=c)=>q5q to row x (by omega) (by omega)
 unfold q2q at wn wadd
 generalize fP=F at wn wadd
 refine u9 hT q3i rfl rfl q3j rfl ?_
 refine q8 (q7 hT ?_)
 refine y8 ⟨⟨65,[(0,.p (.sl 1 (y6 [a0,a1,a2]))),(1,.p (.sl 1 (y6 B)))]⟩,[]⟩ True (q8 (q7 hT ?_)) (fun _=>?_)
 ·refine x8 (u5 wA _ rfl rfl) ?_
  refine x8 (u5 wB _ rfl rfl) ?_
  refine⟨by decide,u7 rfl ?_⟩
  refine z6 (x7 (fun h=>?_) (fun h=>?_))
  ·have h:((((bx a0).length:Nat):Int) != (((y6 B).length:Nat):Int))=true:=h
   rw[bne_iff_ne]at h
   omega
  exact z9 ⟨q9 [] [0,1] rfl,trivial⟩
 refine q8 (q7 hT ?_)
 refine x8 (u5 wn _ rfl rfl) ?_
 refine w6 (fun st=>∃ c',c'=c∧st=⟨⟨65,[(0,.p (.sl 1 (y6 [a0,a1,a2]))),(1,.p (.sl 1 (y6 B))),(6,.p (.box F)),(7,.msl 0 1 0 3)]⟩,[.cells z5 [.msl 1 1 0 c',.msl 2 1 0 c',.msl 3 1 0 c'],.row z4 1 (bx (Q3 (fun _ _=>0) c' 0)),.row z4 1 (bx (Q3 (fun _ _=>0) c' 1)),.row z4 1 (bx (Q3 (fun _ _=>0) c' 2))]⟩) (q7 hT ?_) ?_
 ·refine⟨by decide,u7 hx0 ?_⟩
  refine x8 wf ?_
  exact⟨_,q9 [0,1,2,3] [0,1,6,7] rfl,_,hb0.trans hc0,rfl⟩
 rintro _ ⟨c,rfl,rfl⟩
 clear wf
 refine y8 ⟨⟨65,[(7,.msl 0 1 0 3)]⟩,[.cells z5 [.msl 1 1 0 c,.msl 2 1 0 c,.msl 3 1 0 c],.row z4 1 (bx (v9 a0 B c q)),.row z4 1 (bx (v9 a1 B c q)),.row z4 1 (bx (v9 a2 B c q))]⟩ True (q8 (q7 hT ?_)) (fun _=>?_)
 ·refine z7 ?_
  refine w7 (fun n s=>(n=3∧s=⟨⟨65,[(0,.p (.sl 1 (y6 [a0,a1,a2]))),(1,.p (.sl 1 (y6 B))),(6,.p (.box F)),(7,.msl 0 1 0 3),(37,.p (.sl 1 (y6 [a0,a1,a2]))),(38,i64 3),(39,i64 0)]⟩,[.cells z5 [.msl 1 1 0 c,.msl 2 1 0 c,.msl 3 1 0 c],.row z4 1 (bx (v9 a0 B c 0)),.row z4 1 (bx (v9 a1 B c 0)),.row z4 1 (bx (v9 a2 B c 0))]⟩)∨(n=2∧s=⟨⟨65,[(0,.p (.sl 1 (y6 [a0,a1,a2]))),(1,.p (.sl 1 (y6 B))),(6,.p (.box F)),(7,.msl 0 1 0 3),(37,.p (.sl 1 (y6 [a0,a1,a2]))),(38,i64 3),(39,i64 1)]⟩,[.cells z5 [.msl 1 1 0 c,.msl 2 1 0 c,.msl 3 1 0 c],.row z4 1 (bx (v9 a0 B c q)),.row z4 1 (bx (v9 a1 B c 0)),.row z4 1 (bx (v9 a2 B c 0))]⟩)∨(n=1∧s=⟨⟨65,[(0,.p (.sl 1 (y6 [a0,a1,a2]))),(1,.p (.sl 1 (y6 B))),(6,.p (.box F)),(7,.msl 0 1 0 3),(37,.p (.sl 1 (y6 [a0,a1,a2]))),(38,i64 3),(39,i64 2)]⟩,[.cells z5 [.msl 1 1 0 c,.msl 2 1 0 c,.msl 3 1 0 c],.row z4 1 (bx (v9 a0 B c q)),.row z4 1 (bx (v9 a1 B c q)),.row z4 1 (bx (v9 a2 B c 0))]⟩)∨(n=0∧s=⟨⟨65,[(0,.p (.sl 1 (y6 [a0,a1,a2]))),(1,.p (.sl 1 (y6 B))),(6,.p (.box F)),(7,.msl 0 1 0 3),(37,.p (.sl 1 (y6 [a0,a1,a2]))),(38,i64 3),(39,i64 3)]⟩,[.cells z5 [.msl 1 1 0 c,.msl 2 1 0 c,.msl 3 1 0 c],.row z4 1 (bx (v9 a0 B c q)),.row z4 1 (bx (v9 a1 B c q)),.row z4 1 (bx (v9 a2 B c q))]⟩)) 3 ⟨⟨65,_⟩,_⟩ (q9 [0,1,2,3] [0,1,6,7,37,38,39] rfl) (.inl ⟨rfl,by rw[q3n a0 B c 0,q3n a1 B c 1,q3n a2 B c 2];rfl⟩) ?_
  rintro n s (⟨rfl,rfl⟩|⟨rfl,rfl⟩|⟨rfl,rfl⟩|⟨rfl,rfl⟩)
  ·refine q8 (q7 hT ?_)
   refine q8 (z6 ?_)
   refine z9 ?_
   refine y8 ⟨⟨65,[(0,.p (.sl 1 (y6 [a0,a1,a2]))),(1,.p (.sl 1 (y6 B))),(6,.p (.box F)),(7,.msl 0 1 0 3),(37,.p (.sl 1 (y6 [a0,a1,a2]))),(38,i64 3),(8,i64 0),(39,i64 0)]⟩,[.cells z5 [.msl 1 1 0 c,.msl 2 1 0 c,.msl 3 1 0 c],.row z4 1 (bx (v9 a0 B c q)),.row z4 1 (bx (v9 a1 B c 0)),.row z4 1 (bx (v9 a2 B c 0))]⟩ True (z7 ?_) (fun _=>?_)
   ·refine q8 (q7 hT ?_)
    refine⟨by decide,u7 rfl ?_⟩
    refine q8 (q7 hT ?_)
    refine z7 ?_
    refine w7 (fun n s=>∃ (k:Nat) (j:Int),n+k=q∧j=k∧s=⟨⟨65,[(0,.p (.sl 1 (y6 [a0,a1,a2]))),(1,.p (.sl 1 (y6 B))),(6,.p (.box F)),(7,.msl 0 1 0 3),(37,.p (.sl 1 (y6 [a0,a1,a2]))),(38,i64 3),(8,i64 0),(39,i64 0),(44,bA a0),(45,i64 (bx a0).length),(46,i64 j)]⟩,[.cells z5 [.msl 1 1 0 c,.msl 2 1 0 c,.msl 3 1 0 c],.row z4 1 (bx (v9 a0 B c k)),.row z4 1 (bx (v9 a1 B c 0)),.row z4 1 (bx (v9 a2 B c 0))]⟩) q ⟨⟨65,_⟩,_⟩ (q9 [0,1,2,3] [0,1,6,7,37,38,8,39,44,45,46] rfl) ⟨0,0,by omega,rfl,rfl⟩ ?_
    rintro n2 s ⟨k,j,hnk,hj,rfl⟩
    refine q8 (q7 hT ?_)
    refine q8 (z6 (x7 (fun h=>?_) (fun h=>?_)))
    ·have h:=of_decide_eq_true (show decide (j<(((bx a0).length:Nat):Int))=true from h)
     have hk:k<a0.length:=by omega
     have hkB:k<B.length:=by omega
     refine z9 ?_
     have hxa:=List.getElem?_eq_getElem hk
     have hxb:=List.getElem?_eq_getElem hkB
     have hst:=W7 c hxa hxb
     have hlb:=hBc _ (List.getElem_mem hkB)
     generalize a0[k]=x at hxa hst
     generalize B[k]=b at hxb hst hlb
     have hxp:(bx a0)[j.toNat]?=some [u8 x]:=by rw[hj,Int.toNat_natCast];exact Q7 hxa
     have hbp:(y6 B)[j.toNat]?=some [bP b]:=by rw[hj,Int.toNat_natCast];exact Z2 hxb
     have hml:=Z4 (B:=B) a0 hBc (k:=k) (by omega)
     have w:=wadd (v9 a0 B c k) b x hml hlb
     rw[hml,← hst]at w
     refine y8 ⟨⟨65,[(0,.p (.sl 1 (y6 [a0,a1,a2]))),(1,.p (.sl 1 (y6 B))),(6,.p (.box F)),(7,.msl 0 1 0 3),(37,.p (.sl 1 (y6 [a0,a1,a2]))),(38,i64 3),(8,i64 0),(39,i64 0),(44,bA a0),(45,i64 (bx a0).length),(46,i64 j)]⟩,[.cells z5 [.msl 1 1 0 c,.msl 2 1 0 c,.msl 3 1 0 c],.row z4 1 (bx (v9 a0 B c (k+1))),.row z4 1 (bx (v9 a1 B c 0)),.row z4 1 (bx (v9 a2 B c 0))]⟩ True (z7 (q8 (q7 hT ?_))) (fun _=>?_)
     ·refine⟨by omega,u7 hxp ?_⟩
      refine w9 [10] [] hT z8 (by rfl) ?_
      refine⟨by decide,?_⟩
      refine⟨by omega,u7 hbp ?_⟩
      refine⟨_,_,Q1 [1] w rfl rfl rfl,?_⟩
      repeat first|refine⟨rfl,?_⟩|refine⟨⟨by decide,rfl⟩,?_⟩|refine⟨⟨by omega,u7 hbp rfl⟩,?_⟩
      exact⟨q9 [0,1,2,3] [0,1,6,7,37,38,8,39,44,45,46] rfl,trivial⟩
     ·refine q7 hT ?_
      exact⟨n2 - 1,by omega,_,q9 [0,1,2,3] [0,1,6,7,37,38,8,39,44,45,46] rfl,k+1,IntKind.i64.wrap (j+1),by omega,by rw[x9 _ (by omega) (by omega)];omega,rfl⟩
    ·have h:=of_decide_eq_false (show decide (j<(((bx a0).length:Nat):Int))=false from h)
     rw[show k=q by omega]
     refine u0 ?_
     exact⟨q9 [0,1,2,3] [0,1,6,7,37,38,8,39] rfl,trivial⟩
   ·refine q7 hT ?_
    exact⟨2,by decide,_,q9 [0,1,2,3] [0,1,6,7,37,38,39] rfl,(.inr (.inl ⟨rfl,rfl⟩))⟩
  ·refine q8 (q7 hT ?_)
   refine q8 (z6 ?_)
   refine z9 ?_
   refine y8 ⟨⟨65,[(0,.p (.sl 1 (y6 [a0,a1,a2]))),(1,.p (.sl 1 (y6 B))),(6,.p (.box F)),(7,.msl 0 1 0 3),(37,.p (.sl 1 (y6 [a0,a1,a2]))),(38,i64 3),(8,i64 1),(39,i64 1)]⟩,[.cells z5 [.msl 1 1 0 c,.msl 2 1 0 c,.msl 3 1 0 c],.row z4 1 (bx (v9 a0 B c q)),.row z4 1 (bx (v9 a1 B c q)),.row z4 1 (bx (v9 a2 B c 0))]⟩ True (z7 ?_) (fun _=>?_)
   ·refine q8 (q7 hT ?_)
    refine⟨by decide,u7 rfl ?_⟩
    refine q8 (q7 hT ?_)
    refine z7 ?_
    refine w7 (fun n s=>∃ (k:Nat) (j:Int),n+k=q∧j=k∧s=⟨⟨65,[(0,.p (.sl 1 (y6 [a0,a1,a2]))),(1,.p (.sl 1 (y6 B))),(6,.p (.box F)),(7,.msl 0 1 0 3),(37,.p (.sl 1 (y6 [a0,a1,a2]))),(38,i64 3),(8,i64 1),(39,i64 1),(44,bA a1),(45,i64 (bx a1).length),(46,i64 j)]⟩,[.cells z5 [.msl 1 1 0 c,.msl 2 1 0 c,.msl 3 1 0 c],.row z4 1 (bx (v9 a0 B c q)),.row z4 1 (bx (v9 a1 B c k)),.row z4 1 (bx (v9 a2 B c 0))]⟩) q ⟨⟨65,_⟩,_⟩ (q9 [0,1,2,3] [0,1,6,7,37,38,8,39,44,45,46] rfl) ⟨0,0,by omega,rfl,rfl⟩ ?_
    rintro n2 s ⟨k,j,hnk,hj,rfl⟩
    refine q8 (q7 hT ?_)
    refine q8 (z6 (x7 (fun h=>?_) (fun h=>?_)))
    ·have h:=of_decide_eq_true (show decide (j<(((bx a1).length:Nat):Int))=true from h)
     have hk:k<a1.length:=by omega
     have hkB:k<B.length:=by omega
     refine z9 ?_
     have hxa:=List.getElem?_eq_getElem hk
     have hxb:=List.getElem?_eq_getElem hkB
     have hst:=W7 c hxa hxb
     have hlb:=hBc _ (List.getElem_mem hkB)
     generalize a1[k]=x at hxa hst
     generalize B[k]=b at hxb hst hlb
     have hxp:(bx a1)[j.toNat]?=some [u8 x]:=by rw[hj,Int.toNat_natCast];exact Q7 hxa
     have hbp:(y6 B)[j.toNat]?=some [bP b]:=by rw[hj,Int.toNat_natCast];exact Z2 hxb
     have hml:=Z4 (B:=B) a1 hBc (k:=k) (by omega)
     have w:=wadd (v9 a1 B c k) b x hml hlb
     rw[hml,← hst]at w
     refine y8 ⟨⟨65,[(0,.p (.sl 1 (y6 [a0,a1,a2]))),(1,.p (.sl 1 (y6 B))),(6,.p (.box F)),(7,.msl 0 1 0 3),(37,.p (.sl 1 (y6 [a0,a1,a2]))),(38,i64 3),(8,i64 1),(39,i64 1),(44,bA a1),(45,i64 (bx a1).length),(46,i64 j)]⟩,[.cells z5 [.msl 1 1 0 c,.msl 2 1 0 c,.msl 3 1 0 c],.row z4 1 (bx (v9 a0 B c q)),.row z4 1 (bx (v9 a1 B c (k+1))),.row z4 1 (bx (v9 a2 B c 0))]⟩ True (z7 (q8 (q7 hT ?_))) (fun _=>?_)
     ·refine⟨by omega,u7 hxp ?_⟩
      refine w9 [10] [] hT z8 (by rfl) ?_
      refine⟨by decide,?_⟩
      refine⟨by omega,u7 hbp ?_⟩
      refine⟨_,_,Q1 [2] w rfl rfl rfl,?_⟩
      repeat first|refine⟨rfl,?_⟩|refine⟨⟨by decide,rfl⟩,?_⟩|refine⟨⟨by omega,u7 hbp rfl⟩,?_⟩
      exact⟨q9 [0,1,2,3] [0,1,6,7,37,38,8,39,44,45,46] rfl,trivial⟩
     ·refine q7 hT ?_
      exact⟨n2 - 1,by omega,_,q9 [0,1,2,3] [0,1,6,7,37,38,8,39,44,45,46] rfl,k+1,IntKind.i64.wrap (j+1),by omega,by rw[x9 _ (by omega) (by omega)];omega,rfl⟩
    ·have h:=of_decide_eq_false (show decide (j<(((bx a1).length:Nat):Int))=false from h)
     rw[show k=q by omega]
     refine u0 ?_
     exact⟨q9 [0,1,2,3] [0,1,6,7,37,38,8,39] rfl,trivial⟩
   ·refine q7 hT ?_
    exact⟨1,by decide,_,q9 [0,1,2,3] [0,1,6,7,37,38,39] rfl,(.inr (.inr (.inl ⟨rfl,rfl⟩)))⟩
  ·refine q8 (q7 hT ?_)
   refine q8 (z6 ?_)
   refine z9 ?_
   refine y8 ⟨⟨65,[(0,.p (.sl 1 (y6 [a0,a1,a2]))),(1,.p (.sl 1 (y6 B))),(6,.p (.box F)),(7,.msl 0 1 0 3),(37,.p (.sl 1 (y6 [a0,a1,a2]))),(38,i64 3),(8,i64 2),(39,i64 2)]⟩,[.cells z5 [.msl 1 1 0 c,.msl 2 1 0 c,.msl 3 1 0 c],.row z4 1 (bx (v9 a0 B c q)),.row z4 1 (bx (v9 a1 B c q)),.row z4 1 (bx (v9 a2 B c q))]⟩ True (z7 ?_) (fun _=>?_)
   ·refine q8 (q7 hT ?_)
    refine⟨by decide,u7 rfl ?_⟩
    refine q8 (q7 hT ?_)
    refine z7 ?_
    refine w7 (fun n s=>∃ (k:Nat) (j:Int),n+k=q∧j=k∧s=⟨⟨65,[(0,.p (.sl 1 (y6 [a0,a1,a2]))),(1,.p (.sl 1 (y6 B))),(6,.p (.box F)),(7,.msl 0 1 0 3),(37,.p (.sl 1 (y6 [a0,a1,a2]))),(38,i64 3),(8,i64 2),(39,i64 2),(44,bA a2),(45,i64 (bx a2).length),(46,i64 j)]⟩,[.cells z5 [.msl 1 1 0 c,.msl 2 1 0 c,.msl 3 1 0 c],.row z4 1 (bx (v9 a0 B c q)),.row z4 1 (bx (v9 a1 B c q)),.row z4 1 (bx (v9 a2 B c k))]⟩) q ⟨⟨65,_⟩,_⟩ (q9 [0,1,2,3] [0,1,6,7,37,38,8,39,44,45,46] rfl) ⟨0,0,by omega,rfl,rfl⟩ ?_
    rintro n2 s ⟨k,j,hnk,hj,rfl⟩
    refine q8 (q7 hT ?_)
    refine q8 (z6 (x7 (fun h=>?_) (fun h=>?_)))
    ·have h:=of_decide_eq_true (show decide (j<(((bx a2).length:Nat):Int))=true from h)
     have hk:k<a2.length:=by omega
     have hkB:k<B.length:=by omega
     refine z9 ?_
     have hxa:=List.getElem?_eq_getElem hk
     have hxb:=List.getElem?_eq_getElem hkB
     have hst:=W7 c hxa hxb
     have hlb:=hBc _ (List.getElem_mem hkB)
     generalize a2[k]=x at hxa hst
     generalize B[k]=b at hxb hst hlb
     have hxp:(bx a2)[j.toNat]?=some [u8 x]:=by rw[hj,Int.toNat_natCast];exact Q7 hxa
     have hbp:(y6 B)[j.toNat]?=some [bP b]:=by rw[hj,Int.toNat_natCast];exact Z2 hxb
     have hml:=Z4 (B:=B) a2 hBc (k:=k) (by omega)
     have w:=wadd (v9 a2 B c k) b x hml hlb
     rw[hml,← hst]at w
     refine y8 ⟨⟨65,[(0,.p (.sl 1 (y6 [a0,a1,a2]))),(1,.p (.sl 1 (y6 B))),(6,.p (.box F)),(7,.msl 0 1 0 3),(37,.p (.sl 1 (y6 [a0,a1,a2]))),(38,i64 3),(8,i64 2),(39,i64 2),(44,bA a2),(45,i64 (bx a2).length),(46,i64 j)]⟩,[.cells z5 [.msl 1 1 0 c,.msl 2 1 0 c,.msl 3 1 0 c],.row z4 1 (bx (v9 a0 B c q)),.row z4 1 (bx (v9 a1 B c q)),.row z4 1 (bx (v9 a2 B c (k+1)))]⟩ True (z7 (q8 (q7 hT ?_))) (fun _=>?_)
     ·refine⟨by omega,u7 hxp ?_⟩
      refine w9 [10] [] hT z8 (by rfl) ?_
      refine⟨by decide,?_⟩
      refine⟨by omega,u7 hbp ?_⟩
      refine⟨_,_,Q1 [3] w rfl rfl rfl,?_⟩
      repeat first|refine⟨rfl,?_⟩|refine⟨⟨by decide,rfl⟩,?_⟩|refine⟨⟨by omega,u7 hbp rfl⟩,?_⟩
      exact⟨q9 [0,1,2,3] [0,1,6,7,37,38,8,39,44,45,46] rfl,trivial⟩
     ·refine q7 hT ?_
      exact⟨n2 - 1,by omega,_,q9 [0,1,2,3] [0,1,6,7,37,38,8,39,44,45,46] rfl,k+1,IntKind.i64.wrap (j+1),by omega,by rw[x9 _ (by omega) (by omega)];omega,rfl⟩
    ·have h:=of_decide_eq_false (show decide (j<(((bx a2).length:Nat):Int))=false from h)
     rw[show k=q by omega]
     refine u0 ?_
     exact⟨q9 [0,1,2,3] [0,1,6,7,37,38,8,39] rfl,trivial⟩
   ·refine q7 hT ?_
    exact⟨0,by decide,_,q9 [0,1,2,3] [0,1,6,7,37,38,39] rfl,(.inr (.inr (.inr ⟨rfl,rfl⟩)))⟩
  ·refine q8 (q7 hT ?_)
   refine q8 (z6 ?_)
   refine u0 ?_
   exact⟨q9 [0,1,2,3] [7] rfl,trivial⟩
 refine q8 (q7 hT ?_)
 refine x6 ?_
 exact y9 [0,1,2,3] ⟨rfl,rfl⟩ rfl
theorem w9s (a0 a1 a2:y7)(B:List y7)(q c:Nat)(q1:1≤q)(q2:q≤64)(c1:1≤c)(c2:c≤4096)(hA:∀ s∈([a0,a1,a2]:List y7),s.length=q)(hB:B.length=q)(hBc:∀ s∈B,s.length=c) :
 AF Tryz.prog J7 [.p (.sl 1 (y6 [a0,a1,a2])),.p (.sl 1 (y6 B))] [] (Q0 (.tup [.msl 0 1 0 3,i64 0]) [.row z5 1 (y6 [v9 a0 B c q,v9 a1 B c q,v9 a2 B c q])]):=by
 refine y7d (M:=fun i=>([v9 a0 B c q,v9 a1 B c q,v9 a2 B c q]:List y7).getD i []) (n:=c) (fun i hi=>?_) (w9r a0 a1 a2 B q c q1 q2 c1 c2 hA hB hBc)
 have:i=0∨i=1∨i=2:=by omega
 rcases this with rfl|rfl|rfl <;> exact Z4 _ hBc (by omega)
set_option maxHeartbeats 4000000 in
set_option maxRecDepth 20000 in
theorem w9t (a0 a1 a2 a3:y7)(B:List y7)(q c:Nat)(q1:1≤q)(q2:q≤64)(c1:1≤c)(c2:c≤4096)(hA:∀ s∈([a0,a1,a2,a3]:List y7),s.length=q)(hB:B.length=q)(hBc:∀ s∈B,s.length=c) :
 AF Tryz.prog J7 [.p (.sl 1 (y6 [a0,a1,a2,a3])),.p (.sl 1 (y6 B))] [] (Q0 (.tup [.msl 0 1 0 4,i64 0]) [.cells z5 [.msl 1 1 0 c,.msl 2 1 0 c,.msl 3 1 0 c,.msl 4 1 0 c],.row z4 1 (bx (v9 a0 B c q)),.row z4 1 (bx (v9 a1 B c q)),.row z4 1 (bx (v9 a2 B c q)),.row z4 1 (bx (v9 a3 B c q))]):=by
 have wA:=J1 [a0,a1,a2,a3] q (show 1≤4 by decide) (show 4≤64 by decide) q1 (by omega) hA
 have wB:=J1 B c (by omega) (by omega) c1 c2 hBc
 have wn:=q3e
 have hcl:=Z7 B
 have h0:=List.getElem?_eq_getElem (show 0<B.length by omega)
 have hc0:=hBc _ (List.getElem_mem (show 0<B.length by omega))
 generalize B[0]=b0 at h0 hc0
 have hx0:(y6 B)[(0:Int).toNat]?=some [bP b0]:=Z2 h0
 have hb0:=u6 b0
 have wf:=z2d q0p (bx b0).length (by omega) (fun _ _=>0) (fun i k _ _=>q3m i k)
 have ha0:a0.length=q:=hA a0 (by simp)
 have hx10:=u6 a0
 have ha1:a1.length=q:=hA a1 (by simp)
 have hx11:=u6 a1
 have ha2:a2.length=q:=hA a2 (by simp)
 have hx12:=u6 a2
 have ha3:a3.length=q:=hA a3 (by simp)
 have hx13:=u6 a3
 have wadd:=fun(to row:y7) (x:UInt8) (ht:to.length=c) (hr:row.length=c)=>q5q to row x (by omega) (by omega)
 unfold q2q at wn wadd
 generalize fP=F at wn wadd
 refine u9 hT q3i rfl rfl q3j rfl ?_
 refine q8 (q7 hT ?_)
 refine y8 ⟨⟨65,[(0,.p (.sl 1 (y6 [a0,a1,a2,a3]))),(1,.p (.sl 1 (y6 B)))]⟩,[]⟩ True (q8 (q7 hT ?_)) (fun _=>?_)
 ·refine x8 (u5 wA _ rfl rfl) ?_
  refine x8 (u5 wB _ rfl rfl) ?_
  refine⟨by decide,u7 rfl ?_⟩
  refine z6 (x7 (fun h=>?_) (fun h=>?_))
  ·have h:((((bx a0).length:Nat):Int) != (((y6 B).length:Nat):Int))=true:=h
   rw[bne_iff_ne]at h
   omega
  exact z9 ⟨q9 [] [0,1] rfl,trivial⟩
 refine q8 (q7 hT ?_)
 refine x8 (u5 wn _ rfl rfl) ?_
 refine w6 (fun st=>∃ c',c'=c∧st=⟨⟨65,[(0,.p (.sl 1 (y6 [a0,a1,a2,a3]))),(1,.p (.sl 1 (y6 B))),(6,.p (.box F)),(7,.msl 0 1 0 4)]⟩,[.cells z5 [.msl 1 1 0 c',.msl 2 1 0 c',.msl 3 1 0 c',.msl 4 1 0 c'],.row z4 1 (bx (Q3 (fun _ _=>0) c' 0)),.row z4 1 (bx (Q3 (fun _ _=>0) c' 1)),.row z4 1 (bx (Q3 (fun _ _=>0) c' 2)),.row z4 1 (bx (Q3 (fun _ _=>0) c' 3))]⟩) (q7 hT ?_) ?_
 ·refine⟨by decide,u7 hx0 ?_⟩
  refine x8 wf ?_
  exact⟨_,q9 [0,1,2,3,4] [0,1,6,7] rfl,_,hb0.trans hc0,rfl⟩
 rintro _ ⟨c,rfl,rfl⟩
 clear wf
 refine y8 ⟨⟨65,[(7,.msl 0 1 0 4)]⟩,[.cells z5 [.msl 1 1 0 c,.msl 2 1 0 c,.msl 3 1 0 c,.msl 4 1 0 c],.row z4 1 (bx (v9 a0 B c q)),.row z4 1 (bx (v9 a1 B c q)),.row z4 1 (bx (v9 a2 B c q)),.row z4 1 (bx (v9 a3 B c q))]⟩ True (q8 (q7 hT ?_)) (fun _=>?_)
 ·refine z7 ?_
  refine w7 (fun n s=>(n=4∧s=⟨⟨65,[(0,.p (.sl 1 (y6 [a0,a1,a2,a3]))),(1,.p (.sl 1 (y6 B))),(6,.p (.box F)),(7,.msl 0 1 0 4),(37,.p (.sl 1 (y6 [a0,a1,a2,a3]))),(38,i64 4),(39,i64 0)]⟩,[.cells z5 [.msl 1 1 0 c,.msl 2 1 0 c,.msl 3 1 0 c,.msl 4 1 0 c],.row z4 1 (bx (v9 a0 B c 0)),.row z4 1 (bx (v9 a1 B c 0)),.row z4 1 (bx (v9 a2 B c 0)),.row z4 1 (bx (v9 a3 B c 0))]⟩)∨(n=3∧s=⟨⟨65,[(0,.p (.sl 1 (y6 [a0,a1,a2,a3]))),(1,.p (.sl 1 (y6 B))),(6,.p (.box F)),(7,.msl 0 1 0 4),(37,.p (.sl 1 (y6 [a0,a1,a2,a3]))),(38,i64 4),(39,i64 1)]⟩,[.cells z5 [.msl 1 1 0 c,.msl 2 1 0 c,.msl 3 1 0 c,.msl 4 1 0 c],.row z4 1 (bx (v9 a0 B c q)),.row z4 1 (bx (v9 a1 B c 0)),.row z4 1 (bx (v9 a2 B c 0)),.row z4 1 (bx (v9 a3 B c 0))]⟩)∨(n=2∧s=⟨⟨65,[(0,.p (.sl 1 (y6 [a0,a1,a2,a3]))),(1,.p (.sl 1 (y6 B))),(6,.p (.box F)),(7,.msl 0 1 0 4),(37,.p (.sl 1 (y6 [a0,a1,a2,a3]))),(38,i64 4),(39,i64 2)]⟩,[.cells z5 [.msl 1 1 0 c,.msl 2 1 0 c,.msl 3 1 0 c,.msl 4 1 0 c],.row z4 1 (bx (v9 a0 B c q)),.row z4 1 (bx (v9 a1 B c q)),.row z4 1 (bx (v9 a2 B c 0)),.row z4 1 (bx (v9 a3 B c 0))]⟩)∨(n=1∧s=⟨⟨65,[(0,.p (.sl 1 (y6 [a0,a1,a2,a3]))),(1,.p (.sl 1 (y6 B))),(6,.p (.box F)),(7,.msl 0 1 0 4),(37,.p (.sl 1 (y6 [a0,a1,a2,a3]))),(38,i64 4),(39,i64 3)]⟩,[.cells z5 [.msl 1 1 0 c,.msl 2 1 0 c,.msl 3 1 0 c,.msl 4 1 0 c],.row z4 1 (bx (v9 a0 B c q)),.row z4 1 (bx (v9 a1 B c q)),.row z4 1 (bx (v9 a2 B c q)),.row z4 1 (bx (v9 a3 B c 0))]⟩)∨(n=0∧s=⟨⟨65,[(0,.p (.sl 1 (y6 [a0,a1,a2,a3]))),(1,.p (.sl 1 (y6 B))),(6,.p (.box F)),(7,.msl 0 1 0 4),(37,.p (.sl 1 (y6 [a0,a1,a2,a3]))),(38,i64 4),(39,i64 4)]⟩,[.cells z5 [.msl 1 1 0 c,.msl 2 1 0 c,.msl 3 1 0 c,.msl 4 1 0 c],.row z4 1 (bx (v9 a0 B c q)),.row z4 1 (bx (v9 a1 B c q)),.row z4 1 (bx (v9 a2 B c q)),.row z4 1 (bx (v9 a3 B c q))]⟩)) 4 ⟨⟨65,_⟩,_⟩ (q9 [0,1,2,3,4] [0,1,6,7,37,38,39] rfl) (.inl ⟨rfl,by rw[q3n a0 B c 0,q3n a1 B c 1,q3n a2 B c 2,q3n a3 B c 3];rfl⟩) ?_
  rintro n s (⟨rfl,rfl⟩|⟨rfl,rfl⟩|⟨rfl,rfl⟩|⟨rfl,rfl⟩|⟨rfl,rfl⟩)
  ·refine q8 (q7 hT ?_)
   refine q8 (z6 ?_)
   refine z9 ?_
   refine y8 ⟨⟨65,[(0,.p (.sl 1 (y6 [a0,a1,a2,a3]))),(1,.p (.sl 1 (y6 B))),(6,.p (.box F)),(7,.msl 0 1 0 4),(37,.p (.sl 1 (y6 [a0,a1,a2,a3]))),(38,i64 4),(8,i64 0),(39,i64 0)]⟩,[.cells z5 [.msl 1 1 0 c,.msl 2 1 0 c,.msl 3 1 0 c,.msl 4 1 0 c],.row z4 1 (bx (v9 a0 B c q)),.row z4 1 (bx (v9 a1 B c 0)),.row z4 1 (bx (v9 a2 B c 0)),.row z4 1 (bx (v9 a3 B c 0))]⟩ True (z7 ?_) (fun _=>?_)
   ·refine q8 (q7 hT ?_)
    refine⟨by decide,u7 rfl ?_⟩
    refine q8 (q7 hT ?_)
    refine z7 ?_
    refine w7 (fun n s=>∃ (k:Nat) (j:Int),n+k=q∧j=k∧s=⟨⟨65,[(0,.p (.sl 1 (y6 [a0,a1,a2,a3]))),(1,.p (.sl 1 (y6 B))),(6,.p (.box F)),(7,.msl 0 1 0 4),(37,.p (.sl 1 (y6 [a0,a1,a2,a3]))),(38,i64 4),(8,i64 0),(39,i64 0),(44,bA a0),(45,i64 (bx a0).length),(46,i64 j)]⟩,[.cells z5 [.msl 1 1 0 c,.msl 2 1 0 c,.msl 3 1 0 c,.msl 4 1 0 c],.row z4 1 (bx (v9 a0 B c k)),.row z4 1 (bx (v9 a1 B c 0)),.row z4 1 (bx (v9 a2 B c 0)),.row z4 1 (bx (v9 a3 B c 0))]⟩) q ⟨⟨65,_⟩,_⟩ (q9 [0,1,2,3,4] [0,1,6,7,37,38,8,39,44,45,46] rfl) ⟨0,0,by omega,rfl,rfl⟩ ?_
    rintro n2 s ⟨k,j,hnk,hj,rfl⟩
    refine q8 (q7 hT ?_)
    refine q8 (z6 (x7 (fun h=>?_) (fun h=>?_)))
    ·have h:=of_decide_eq_true (show decide (j<(((bx a0).length:Nat):Int))=true from h)
     have hk:k<a0.length:=by omega
     have hkB:k<B.length:=by omega
     refine z9 ?_
     have hxa:=List.getElem?_eq_getElem hk
     have hxb:=List.getElem?_eq_getElem hkB
     have hst:=W7 c hxa hxb
     have hlb:=hBc _ (List.getElem_mem hkB)
     generalize a0[k]=x at hxa hst
     generalize B[k]=b at hxb hst hlb
     have hxp:(bx a0)[j.toNat]?=some [u8 x]:=by rw[hj,Int.toNat_natCast];exact Q7 hxa
     have hbp:(y6 B)[j.toNat]?=some [bP b]:=by rw[hj,Int.toNat_natCast];exact Z2 hxb
     have hml:=Z4 (B:=B) a0 hBc (k:=k) (by omega)
     have w:=wadd (v9 a0 B c k) b x hml hlb
     rw[hml,← hst]at w
     refine y8 ⟨⟨65,[(0,.p (.sl 1 (y6 [a0,a1,a2,a3]))),(1,.p (.sl 1 (y6 B))),(6,.p (.box F)),(7,.msl 0 1 0 4),(37,.p (.sl 1 (y6 [a0,a1,a2,a3]))),(38,i64 4),(8,i64 0),(39,i64 0),(44,bA a0),(45,i64 (bx a0).length),(46,i64 j)]⟩,[.cells z5 [.msl 1 1 0 c,.msl 2 1 0 c,.msl 3 1 0 c,.msl 4 1 0 c],.row z4 1 (bx (v9 a0 B c (k+1))),.row z4 1 (bx (v9 a1 B c 0)),.row z4 1 (bx (v9 a2 B c 0)),.row z4 1 (bx (v9 a3 B c 0))]⟩ True (z7 (q8 (q7 hT ?_))) (fun _=>?_)
     ·refine⟨by omega,u7 hxp ?_⟩
      refine w9 [10] [] hT z8 (by rfl) ?_
      refine⟨by decide,?_⟩
      refine⟨by omega,u7 hbp ?_⟩
      refine⟨_,_,Q1 [1] w rfl rfl rfl,?_⟩
      repeat first|refine⟨rfl,?_⟩|refine⟨⟨by decide,rfl⟩,?_⟩|refine⟨⟨by omega,u7 hbp rfl⟩,?_⟩
      exact⟨q9 [0,1,2,3,4] [0,1,6,7,37,38,8,39,44,45,46] rfl,trivial⟩
     ·refine q7 hT ?_
      exact⟨n2 - 1,by omega,_,q9 [0,1,2,3,4] [0,1,6,7,37,38,8,39,44,45,46] rfl,k+1,IntKind.i64.wrap (j+1),by omega,by rw[x9 _ (by omega) (by omega)];omega,rfl⟩
    ·have h:=of_decide_eq_false (show decide (j<(((bx a0).length:Nat):Int))=false from h)
     rw[show k=q by omega]
     refine u0 ?_
     exact⟨q9 [0,1,2,3,4] [0,1,6,7,37,38,8,39] rfl,trivial⟩
   ·refine q7 hT ?_
    exact⟨3,by decide,_,q9 [0,1,2,3,4] [0,1,6,7,37,38,39] rfl,(.inr (.inl ⟨rfl,rfl⟩))⟩
  ·refine q8 (q7 hT ?_)
   refine q8 (z6 ?_)
   refine z9 ?_
   refine y8 ⟨⟨65,[(0,.p (.sl 1 (y6 [a0,a1,a2,a3]))),(1,.p (.sl 1 (y6 B))),(6,.p (.box F)),(7,.msl 0 1 0 4),(37,.p (.sl 1 (y6 [a0,a1,a2,a3]))),(38,i64 4),(8,i64 1),(39,i64 1)]⟩,[.cells z5 [.msl 1 1 0 c,.msl 2 1 0 c,.msl 3 1 0 c,.msl 4 1 0 c],.row z4 1 (bx (v9 a0 B c q)),.row z4 1 (bx (v9 a1 B c q)),.row z4 1 (bx (v9 a2 B c 0)),.row z4 1 (bx (v9 a3 B c 0))]⟩ True (z7 ?_) (fun _=>?_)
   ·refine q8 (q7 hT ?_)
    refine⟨by decide,u7 rfl ?_⟩
    refine q8 (q7 hT ?_)
    refine z7 ?_
    refine w7 (fun n s=>∃ (k:Nat) (j:Int),n+k=q∧j=k∧s=⟨⟨65,[(0,.p (.sl 1 (y6 [a0,a1,a2,a3]))),(1,.p (.sl 1 (y6 B))),(6,.p (.box F)),(7,.msl 0 1 0 4),(37,.p (.sl 1 (y6 [a0,a1,a2,a3]))),(38,i64 4),(8,i64 1),(39,i64 1),(44,bA a1),(45,i64 (bx a1).length),(46,i64 j)]⟩,[.cells z5 [.msl 1 1 0 c,.msl 2 1 0 c,.msl 3 1 0 c,.msl 4 1 0 c],.row z4 1 (bx (v9 a0 B c q)),.row z4 1 (bx (v9 a1 B c k)),.row z4 1 (bx (v9 a2 B c 0)),.row z4 1 (bx (v9 a3 B c 0))]⟩) q ⟨⟨65,_⟩,_⟩ (q9 [0,1,2,3,4] [0,1,6,7,37,38,8,39,44,45,46] rfl) ⟨0,0,by omega,rfl,rfl⟩ ?_
    rintro n2 s ⟨k,j,hnk,hj,rfl⟩
    refine q8 (q7 hT ?_)
    refine q8 (z6 (x7 (fun h=>?_) (fun h=>?_)))
    ·have h:=of_decide_eq_true (show decide (j<(((bx a1).length:Nat):Int))=true from h)
     have hk:k<a1.length:=by omega
     have hkB:k<B.length:=by omega
     refine z9 ?_
     have hxa:=List.getElem?_eq_getElem hk
     have hxb:=List.getElem?_eq_getElem hkB
     have hst:=W7 c hxa hxb
     have hlb:=hBc _ (List.getElem_mem hkB)
     generalize a1[k]=x at hxa hst
     generalize B[k]=b at hxb hst hlb
     have hxp:(bx a1)[j.toNat]?=some [u8 x]:=by rw[hj,Int.toNat_natCast];exact Q7 hxa
     have hbp:(y6 B)[j.toNat]?=some [bP b]:=by rw[hj,Int.toNat_natCast];exact Z2 hxb
     have hml:=Z4 (B:=B) a1 hBc (k:=k) (by omega)
     have w:=wadd (v9 a1 B c k) b x hml hlb
     rw[hml,← hst]at w
     refine y8 ⟨⟨65,[(0,.p (.sl 1 (y6 [a0,a1,a2,a3]))),(1,.p (.sl 1 (y6 B))),(6,.p (.box F)),(7,.msl 0 1 0 4),(37,.p (.sl 1 (y6 [a0,a1,a2,a3]))),(38,i64 4),(8,i64 1),(39,i64 1),(44,bA a1),(45,i64 (bx a1).length),(46,i64 j)]⟩,[.cells z5 [.msl 1 1 0 c,.msl 2 1 0 c,.msl 3 1 0 c,.msl 4 1 0 c],.row z4 1 (bx (v9 a0 B c q)),.row z4 1 (bx (v9 a1 B c (k+1))),.row z4 1 (bx (v9 a2 B c 0)),.row z4 1 (bx (v9 a3 B c 0))]⟩ True (z7 (q8 (q7 hT ?_))) (fun _=>?_)
     ·refine⟨by omega,u7 hxp ?_⟩
      refine w9 [10] [] hT z8 (by rfl) ?_
      refine⟨by decide,?_⟩
      refine⟨by omega,u7 hbp ?_⟩
      refine⟨_,_,Q1 [2] w rfl rfl rfl,?_⟩
      repeat first|refine⟨rfl,?_⟩|refine⟨⟨by decide,rfl⟩,?_⟩|refine⟨⟨by omega,u7 hbp rfl⟩,?_⟩
      exact⟨q9 [0,1,2,3,4] [0,1,6,7,37,38,8,39,44,45,46] rfl,trivial⟩
     ·refine q7 hT ?_
      exact⟨n2 - 1,by omega,_,q9 [0,1,2,3,4] [0,1,6,7,37,38,8,39,44,45,46] rfl,k+1,IntKind.i64.wrap (j+1),by omega,by rw[x9 _ (by omega) (by omega)];omega,rfl⟩
    ·have h:=of_decide_eq_false (show decide (j<(((bx a1).length:Nat):Int))=false from h)
     rw[show k=q by omega]
     refine u0 ?_
     exact⟨q9 [0,1,2,3,4] [0,1,6,7,37,38,8,39] rfl,trivial⟩
   ·refine q7 hT ?_
    exact⟨2,by decide,_,q9 [0,1,2,3,4] [0,1,6,7,37,38,39] rfl,(.inr (.inr (.inl ⟨rfl,rfl⟩)))⟩
  ·refine q8 (q7 hT ?_)
   refine q8 (z6 ?_)
   refine z9 ?_
   refine y8 ⟨⟨65,[(0,.p (.sl 1 (y6 [a0,a1,a2,a3]))),(1,.p (.sl 1 (y6 B))),(6,.p (.box F)),(7,.msl 0 1 0 4),(37,.p (.sl 1 (y6 [a0,a1,a2,a3]))),(38,i64 4),(8,i64 2),(39,i64 2)]⟩,[.cells z5 [.msl 1 1 0 c,.msl 2 1 0 c,.msl 3 1 0 c,.msl 4 1 0 c],.row z4 1 (bx (v9 a0 B c q)),.row z4 1 (bx (v9 a1 B c q)),.row z4 1 (bx (v9 a2 B c q)),.row z4 1 (bx (v9 a3 B c 0))]⟩ True (z7 ?_) (fun _=>?_)
   ·refine q8 (q7 hT ?_)
    refine⟨by decide,u7 rfl ?_⟩
    refine q8 (q7 hT ?_)
    refine z7 ?_
    refine w7 (fun n s=>∃ (k:Nat) (j:Int),n+k=q∧j=k∧s=⟨⟨65,[(0,.p (.sl 1 (y6 [a0,a1,a2,a3]))),(1,.p (.sl 1 (y6 B))),(6,.p (.box F)),(7,.msl 0 1 0 4),(37,.p (.sl 1 (y6 [a0,a1,a2,a3]))),(38,i64 4),(8,i64 2),(39,i64 2),(44,bA a2),(45,i64 (bx a2).length),(46,i64 j)]⟩,[.cells z5 [.msl 1 1 0 c,.msl 2 1 0 c,.msl 3 1 0 c,.msl 4 1 0 c],.row z4 1 (bx (v9 a0 B c q)),.row z4 1 (bx (v9 a1 B c q)),.row z4 1 (bx (v9 a2 B c k)),.row z4 1 (bx (v9 a3 B c 0))]⟩) q ⟨⟨65,_⟩,_⟩ (q9 [0,1,2,3,4] [0,1,6,7,37,38,8,39,44,45,46] rfl) ⟨0,0,by omega,rfl,rfl⟩ ?_
    rintro n2 s ⟨k,j,hnk,hj,rfl⟩
    refine q8 (q7 hT ?_)
    refine q8 (z6 (x7 (fun h=>?_) (fun h=>?_)))
    ·have h:=of_decide_eq_true (show decide (j<(((bx a2).length:Nat):Int))=true from h)
     have hk:k<a2.length:=by omega
     have hkB:k<B.length:=by omega
     refine z9 ?_
     have hxa:=List.getElem?_eq_getElem hk
     have hxb:=List.getElem?_eq_getElem hkB
     have hst:=W7 c hxa hxb
     have hlb:=hBc _ (List.getElem_mem hkB)
     generalize a2[k]=x at hxa hst
     generalize B[k]=b at hxb hst hlb
     have hxp:(bx a2)[j.toNat]?=some [u8 x]:=by rw[hj,Int.toNat_natCast];exact Q7 hxa
     have hbp:(y6 B)[j.toNat]?=some [bP b]:=by rw[hj,Int.toNat_natCast];exact Z2 hxb
     have hml:=Z4 (B:=B) a2 hBc (k:=k) (by omega)
     have w:=wadd (v9 a2 B c k) b x hml hlb
     rw[hml,← hst]at w
     refine y8 ⟨⟨65,[(0,.p (.sl 1 (y6 [a0,a1,a2,a3]))),(1,.p (.sl 1 (y6 B))),(6,.p (.box F)),(7,.msl 0 1 0 4),(37,.p (.sl 1 (y6 [a0,a1,a2,a3]))),(38,i64 4),(8,i64 2),(39,i64 2),(44,bA a2),(45,i64 (bx a2).length),(46,i64 j)]⟩,[.cells z5 [.msl 1 1 0 c,.msl 2 1 0 c,.msl 3 1 0 c,.msl 4 1 0 c],.row z4 1 (bx (v9 a0 B c q)),.row z4 1 (bx (v9 a1 B c q)),.row z4 1 (bx (v9 a2 B c (k+1))),.row z4 1 (bx (v9 a3 B c 0))]⟩ True (z7 (q8 (q7 hT ?_))) (fun _=>?_)
     ·refine⟨by omega,u7 hxp ?_⟩
      refine w9 [10] [] hT z8 (by rfl) ?_
      refine⟨by decide,?_⟩
      refine⟨by omega,u7 hbp ?_⟩
      refine⟨_,_,Q1 [3] w rfl rfl rfl,?_⟩
      repeat first|refine⟨rfl,?_⟩|refine⟨⟨by decide,rfl⟩,?_⟩|refine⟨⟨by omega,u7 hbp rfl⟩,?_⟩
      exact⟨q9 [0,1,2,3,4] [0,1,6,7,37,38,8,39,44,45,46] rfl,trivial⟩
     ·refine q7 hT ?_
      exact⟨n2 - 1,by omega,_,q9 [0,1,2,3,4] [0,1,6,7,37,38,8,39,44,45,46] rfl,k+1,IntKind.i64.wrap (j+1),by omega,by rw[x9 _ (by omega) (by omega)];omega,rfl⟩
    ·have h:=of_decide_eq_false (show decide (j<(((bx a2).length:Nat):Int))=false from h)
     rw[show k=q by omega]
     refine u0 ?_
     exact⟨q9 [0,1,2,3,4] [0,1,6,7,37,38,8,39] rfl,trivial⟩
   ·refine q7 hT ?_
    exact⟨1,by decide,_,q9 [0,1,2,3,4] [0,1,6,7,37,38,39] rfl,(.inr (.inr (.inr (.inl ⟨rfl,rfl⟩))))⟩
  ·refine q8 (q7 hT ?_)
   refine q8 (z6 ?_)
   refine z9 ?_
   refine y8 ⟨⟨65,[(0,.p (.sl 1 (y6 [a0,a1,a2,a3]))),(1,.p (.sl 1 (y6 B))),(6,.p (.box F)),(7,.msl 0 1 0 4),(37,.p (.sl 1 (y6 [a0,a1,a2,a3]))),(38,i64 4),(8,i64 3),(39,i64 3)]⟩,[.cells z5 [.msl 1 1 0 c,.msl 2 1 0 c,.msl 3 1 0 c,.msl 4 1 0 c],.row z4 1 (bx (v9 a0 B c q)),.row z4 1 (bx (v9 a1 B c q)),.row z4 1 (bx (v9 a2 B c q)),.row z4 1 (bx (v9 a3 B c q))]⟩ True (z7 ?_) (fun _=>?_)
   ·refine q8 (q7 hT ?_)
    refine⟨by decide,u7 rfl ?_⟩
    refine q8 (q7 hT ?_)
    refine z7 ?_
    refine w7 (fun n s=>∃ (k:Nat) (j:Int),n+k=q∧j=k∧s=⟨⟨65,[(0,.p (.sl 1 (y6 [a0,a1,a2,a3]))),(1,.p (.sl 1 (y6 B))),(6,.p (.box F)),(7,.msl 0 1 0 4),(37,.p (.sl 1 (y6 [a0,a1,a2,a3]))),(38,i64 4),(8,i64 3),(39,i64 3),(44,bA a3),(45,i64 (bx a3).length),(46,i64 j)]⟩,[.cells z5 [.msl 1 1 0 c,.msl 2 1 0 c,.msl 3 1 0 c,.msl 4 1 0 c],.row z4 1 (bx (v9 a0 B c q)),.row z4 1 (bx (v9 a1 B c q)),.row z4 1 (bx (v9 a2 B c q)),.row z4 1 (bx (v9 a3 B c k))]⟩) q ⟨⟨65,_⟩,_⟩ (q9 [0,1,2,3,4] [0,1,6,7,37,38,8,39,44,45,46] rfl) ⟨0,0,by omega,rfl,rfl⟩ ?_
    rintro n2 s ⟨k,j,hnk,hj,rfl⟩
    refine q8 (q7 hT ?_)
    refine q8 (z6 (x7 (fun h=>?_) (fun h=>?_)))
    ·have h:=of_decide_eq_true (show decide (j<(((bx a3).length:Nat):Int))=true from h)
     have hk:k<a3.length:=by omega
     have hkB:k<B.length:=by omega
     refine z9 ?_
     have hxa:=List.getElem?_eq_getElem hk
     have hxb:=List.getElem?_eq_getElem hkB
     have hst:=W7 c hxa hxb
     have hlb:=hBc _ (List.getElem_mem hkB)
     generalize a3[k]=x at hxa hst
     generalize B[k]=b at hxb hst hlb
     have hxp:(bx a3)[j.toNat]?=some [u8 x]:=by rw[hj,Int.toNat_natCast];exact Q7 hxa
     have hbp:(y6 B)[j.toNat]?=some [bP b]:=by rw[hj,Int.toNat_natCast];exact Z2 hxb
     have hml:=Z4 (B:=B) a3 hBc (k:=k) (by omega)
     have w:=wadd (v9 a3 B c k) b x hml hlb
     rw[hml,← hst]at w
     refine y8 ⟨⟨65,[(0,.p (.sl 1 (y6 [a0,a1,a2,a3]))),(1,.p (.sl 1 (y6 B))),(6,.p (.box F)),(7,.msl 0 1 0 4),(37,.p (.sl 1 (y6 [a0,a1,a2,a3]))),(38,i64 4),(8,i64 3),(39,i64 3),(44,bA a3),(45,i64 (bx a3).length),(46,i64 j)]⟩,[.cells z5 [.msl 1 1 0 c,.msl 2 1 0 c,.msl 3 1 0 c,.msl 4 1 0 c],.row z4 1 (bx (v9 a0 B c q)),.row z4 1 (bx (v9 a1 B c q)),.row z4 1 (bx (v9 a2 B c q)),.row z4 1 (bx (v9 a3 B c (k+1)))]⟩ True (z7 (q8 (q7 hT ?_))) (fun _=>?_)
     ·refine⟨by omega,u7 hxp ?_⟩
      refine w9 [10] [] hT z8 (by rfl) ?_
      refine⟨by decide,?_⟩
      refine⟨by omega,u7 hbp ?_⟩
      refine⟨_,_,Q1 [4] w rfl rfl rfl,?_⟩
      repeat first|refine⟨rfl,?_⟩|refine⟨⟨by decide,rfl⟩,?_⟩|refine⟨⟨by omega,u7 hbp rfl⟩,?_⟩
      exact⟨q9 [0,1,2,3,4] [0,1,6,7,37,38,8,39,44,45,46] rfl,trivial⟩
     ·refine q7 hT ?_
      exact⟨n2 - 1,by omega,_,q9 [0,1,2,3,4] [0,1,6,7,37,38,8,39,44,45,46] rfl,k+1,IntKind.i64.wrap (j+1),by omega,by rw[x9 _ (by omega) (by omega)];omega,rfl⟩
    ·have h:=of_decide_eq_false (show decide (j<(((bx a3).length:Nat):Int))=false from h)
     rw[show k=q by omega]
     refine u0 ?_
     exact⟨q9 [0,1,2,3,4] [0,1,6,7,37,38,8,39] rfl,trivial⟩
   ·refine q7 hT ?_
    exact⟨0,by decide,_,q9 [0,1,2,3,4] [0,1,6,7,37,38,39] rfl,(.inr (.inr (.inr (.inr ⟨rfl,rfl⟩))))⟩
  ·refine q8 (q7 hT ?_)
   refine q8 (z6 ?_)
   refine u0 ?_
   exact⟨q9 [0,1,2,3,4] [7] rfl,trivial⟩
 refine q8 (q7 hT ?_)
 refine x6 ?_
 exact y9 [0,1,2,3,4] ⟨rfl,rfl⟩ rfl
theorem w9u (a0 a1 a2 a3:y7)(B:List y7)(q c:Nat)(q1:1≤q)(q2:q≤64)(c1:1≤c)(c2:c≤4096)(hA:∀ s∈([a0,a1,a2,a3]:List y7),s.length=q)(hB:B.length=q)(hBc:∀ s∈B,s.length=c) :
 AF Tryz.prog J7 [.p (.sl 1 (y6 [a0,a1,a2,a3])),.p (.sl 1 (y6 B))] [] (Q0 (.tup [.msl 0 1 0 4,i64 0]) [.row z5 1 (y6 [v9 a0 B c q,v9 a1 B c q,v9 a2 B c q,v9 a3 B c q])]):=by
 refine y7e (M:=fun i=>([v9 a0 B c q,v9 a1 B c q,v9 a2 B c q,v9 a3 B c q]:List y7).getD i []) (n:=c) (fun i hi=>?_) (w9t a0 a1 a2 a3 B q c q1 q2 c1 c2 hA hB hBc)
 have:i=0∨i=1∨i=2∨i=3:=by omega
 rcases this with rfl|rfl|rfl|rfl <;> exact Z4 _ hBc (by omega)
end Go.Proofs.YtinfbclgkghgaaaGreat.AL
namespace Go.Proofs.YtinfbclgkghgaaaGreat.AL
open Go Go.Proofs
abbrev W8:Type:=Nat→y7
def swp (M:W8)(c p:Nat):W8:=fun i=>match Nat.beq i c with
 |true=>M p
 |false=>match Nat.beq i p with|true=>M c|false=>M i
def Y0 (M:W8)(c:Nat)(v:y7):W8:=fun i=>match Nat.beq i c with|true=>v|false=>M i
def q7e (M:W8)(c:Nat):Nat→Nat→Int
 |0,_=>-1
 |n+1,i=>match (M i).getD c 0 != 0 with|true=>i|false=>q7e M c n (i+1)
def q4f (M:W8)(r c:Nat):Int:=q7e M c (r - c) c
def Y4 (c k:Nat)(G:W8 × W8):W8 × W8:=match !Nat.beq k c&&(G.1 k).getD c 0 != 0 with
 |true=>(Y0 G.1 k (Y7 (G.1 k) (G.1 c) ((G.1 k).getD c 0)),Y0 G.2 k (Y7 (G.2 k) (G.2 c) ((G.1 k).getD c 0)))
 |false=>G
def elS (c:Nat)(G:W8 × W8):Nat→W8 × W8
 |0=>G
 |k+1=>Y4 c k (elS c G k)
def J4 (r c:Nat)(G:W8 × W8):W8 × W8:=(swp G.1 c (q4f G.1 r c).toNat,swp G.2 c (q4f G.1 r c).toNat)
def q2y (c:Nat)(G:W8 × W8):W8 × W8:=(Y0 G.1 c (V4 (Gf.inv ((G.1 c).getD c 0)) (G.1 c)),Y0 G.2 c (V4 (Gf.inv ((G.1 c).getD c 0)) (G.2 c)))
def q1n (r c:Nat)(G:W8 × W8):W8 × W8:=elS c (q2y c (J4 r c G)) r
def gs0 (r:Nat)(L:List y7):W8 × W8:=(fun i=>L.getD i [],Q3 idA r)
def gs (r:Nat)(L:List y7):Nat→W8 × W8
 |0=>gs0 r L
 |c+1=>q1n r c (gs r L c)
def y0d (r:Nat)(L:List y7):Bool:=(List.range r).all fun c=>decide (0≤q4f (gs r L c).1 r c)
def Y9 (r:Nat)(M:W8):Prop:=∀ i,i<r→(M i).length=r
theorem V5 {r:Nat}{M:W8}(h:Y9 r M){c p:Nat}(hc:c<r)(hp:p<r):Y9 r (swp M c p):=fun i hi=>by
 unfold swp
 split
 ·exact h p hp
 ·split
  ·exact h c hc
  ·exact h i hi
theorem X7 {r:Nat}{M:W8}(h:Y9 r M)(c:Nat){v:y7}(hv:v.length=r):Y9 r (Y0 M c v):=fun i hi=>by
 unfold Y0
 split
 ·exact hv
 ·exact h i hi
theorem X4 (x:UInt8)(t:y7):(V4 x t).length=t.length:=List.length_map _
theorem w4d {r c k:Nat}(hc:c<r)(hk:k<r){G:W8 × W8}(h1:Y9 r G.1)(h2:Y9 r G.2):Y9 r (Y4 c k G).1∧Y9 r (Y4 c k G).2:=by
 unfold Y4
 split
 ·exact⟨X7 h1 k (by rw[q7d _ (by rw[h1 k hk,h1 c hc]),h1 k hk]),X7 h2 k (by rw[q7d _ (by rw[h2 k hk,h2 c hc]),h2 k hk])⟩
 ·exact⟨h1,h2⟩
theorem q2j {r c:Nat}(hc:c<r){G:W8 × W8}(h1:Y9 r G.1)(h2:Y9 r G.2):∀ k,k≤r→Y9 r (elS c G k).1∧Y9 r (elS c G k).2
 |0,_=>⟨h1,h2⟩
 |k+1,hk=>by
  obtain⟨a,b⟩:=q2j hc h1 h2 k (by omega)
  exact w4d hc (by omega) a b
theorem w6h (M:W8)(c:Nat):∀ n i,0≤q7e M c n i→∃ p:Nat,q7e M c n i=p∧i≤p∧p<i+n∧(M p).getD c 0≠0
 |0,i,h=>absurd h (by show ¬ (0:Int)≤-1;decide)
 |n+1,i,h=>by
  unfold q7e at h ⊢
  cases hm:(M i).getD c 0 != 0 with
  |true=>exact⟨i,rfl,Nat.le_refl _,by omega,bne_iff_ne.mp hm⟩
  |false=>
   rw[hm]at h
   obtain⟨p,h1,h2,h3,h4⟩:=w6h M c n (i+1) h
   exact⟨p,h1,by omega,by omega,h4⟩
theorem z3n {M:W8}{r c:Nat}(hc:c<r)(h:0≤q4f M r c):∃ p:Nat,q4f M r c=p∧c≤p∧p<r∧(M p).getD c 0≠0:=by
 obtain⟨p,h1,h2,h3,h4⟩:=w6h M c (r - c) c h
 exact⟨p,h1,h2,by omega,h4⟩
theorem z7v {r:Nat}{L:List y7}(h:y0d r L=true){c:Nat}(hc:c<r):0≤q4f (gs r L c).1 r c:=by
 unfold y0d at h
 exact of_decide_eq_true (List.all_eq_true.mp h c (List.mem_range.mpr hc))
theorem y0e {r:Nat}{L:List y7}(hok:y0d r L=true)(hL:L.length=r)(hr:∀ s∈L,s.length=r):∀ c,c≤r→Y9 r (gs r L c).1∧Y9 r (gs r L c).2
 |0,_=>by
  refine⟨fun i hi=>?_,fun i _=>by show (Q3 idA r i).length=r;unfold Q3;rw[List.length_map,List.length_range]⟩
  show (L.getD i []).length=r
  rw[List.getD_eq_getElem?_getD,List.getElem?_eq_getElem (by omega)]
  exact hr _ (List.getElem_mem _)
 |c+1,hc=>by
  obtain⟨a,b⟩:=y0e hok hL hr c (by omega)
  obtain⟨p,p1,_,p3,_⟩:=z3n (by omega) (z7v hok (c:=c) (by omega))
  have e:(q4f (gs r L c).1 r c).toNat=p:=by rw[p1];exact Int.toNat_natCast p
  have s1:Y9 r (J4 r c (gs r L c)).1:=by show Y9 r (swp _ c (q4f _ r c).toNat);rw[e];exact V5 a (by omega) p3
  have s2:Y9 r (J4 r c (gs r L c)).2:=by show Y9 r (swp _ c (q4f _ r c).toNat);rw[e];exact V5 b (by omega) p3
  exact q2j (by omega) (X7 s1 c (by rw[X4];exact s1 c (by omega))) (X7 s2 c (by rw[X4];exact s2 c (by omega))) r (Nat.le_refl _)
theorem Z3 {l:y7}{c:Nat}(h:c<l.length):l[c]?=some (l.getD c 0):=by rw[List.getD_eq_getElem?_getD,List.getElem?_eq_getElem h];rfl
end Go.Proofs.YtinfbclgkghgaaaGreat.AL
namespace Go.Proofs.YtinfbclgkghgaaaGreat.AL
open Go Go.Proofs
set_option maxHeartbeats 2000000 in
set_option maxRecDepth 20000 in
theorem w4e (M:W8)(hM:Y9 1 M)(c:Nat)(hc:c<1):AFm Tryz.prog 2 q7u [.msl 0 1 0 1,i64 c] [.cells z5 [.msl 1 1 0 1],.row z4 1 (bx (M 0))] (Q0 (i64 (q4f M 1 c)) [.cells z5 [.msl 1 1 0 1],.row z4 1 (bx (M 0))]):=by
 refine AFm.mono (R:=fun r H'=>∃ z,z=q4f M 1 c∧r=i64 z∧H'=[.cells z5 [.msl 1 1 0 1],.row z4 1 (bx (M 0))]) ?_ (by rintro r H' ⟨z,rfl,rfl,rfl⟩;exact⟨rfl,rfl⟩)
 have e0:q4f M 1 c=q7e M c (1 - c) c:=rfl
 generalize q4f M 1 c=Z at e0
 refine Q9 2 hT q7v rfl rfl q7w rfl rfl ?_
 refine q8 (q7 hT ?_)
 refine y8 ⟨⟨22,[]⟩,[.cells z5 [.msl 1 1 0 1],.row z4 1 (bx (M 0))]⟩ (Z = -1) (q8 (q7 hT ?_)) (fun hZ=>?_)
 ·refine z7 ?_
  refine w7 (fun n s=>∃ (k:Nat) (j:Int),n+k=1∧j=k∧Z=q7e M c (1 - k) k∧s=⟨⟨22,[(0,.msl 0 1 0 1),(1,i64 c),(5,i64 j)]⟩,[.cells z5 [.msl 1 1 0 1],.row z4 1 (bx (M 0))]⟩) (1 - c) ⟨⟨22,_⟩,_⟩ (q9 [0,1] [0,1,5] rfl) ⟨c,c,by omega,rfl,e0,rfl⟩ ?_
  rintro n s ⟨k,j,hnk,hj,hz,rfl⟩
  refine q8 (q8 (q7 hT ?_))
  refine z6 (x7 (fun h=>?_) (fun h=>?_))
  ·have h:=of_decide_eq_true (show decide (j<((1:Nat):Int))=true from h)
   have hk:k<1:=by omega
   refine z9 ?_
   have hzs:q7e M c (1 - k) k=match (M k).getD c 0 != 0 with|true=>(k:Int)|false=>q7e M c (1 - (k+1)) (k+1):=by
    rw[show 1 - k=(1 - (k+1))+1 by omega];rfl
   rw[hzs]at hz
   have hg:=Z3 (l:=M k) (c:=c) (by rw[hM k hk];exact hc)
   have hlt:=((M k).getD c 0).toNat_lt
   generalize hv:(M k).getD c 0=v at hg hz hlt
   have hgx:(bx (M k))[0+((c:Nat):Int).toNat]?=some [u8 v]:=by rw[Int.toNat_natCast,Nat.zero_add];exact Q7 hg
   refine y8 ⟨⟨22,[(0,.msl 0 1 0 1),(1,i64 c),(5,i64 j)]⟩,[.cells z5 [.msl 1 1 0 1],.row z4 1 (bx (M 0))]⟩ (v=0) (z7 (q8 (q7 hT ?_))) (fun hv0=>?_)
   ·subst hj
    have hk4:k=0:=by omega
    rcases hk4 with rfl
    all_goals
     refine⟨by decide,?_⟩
     refine⟨⟨by omega,by omega⟩,?_⟩
     refine u7 hgx ?_
     refine z6 (x7 (fun h=>?_) (fun h=>?_))
     ·have h:(((v.toNat:Nat):Int) != 0)=true:=h
      rw[bne_iff_ne]at h
      have hne:v≠0:=fun e=>h (by rw[e];rfl)
      rw[bne_iff_ne.mpr hne]at hz
      refine q8 (q7 hT ?_)
      refine x6 ?_
      exact y9 [0,1] ⟨_,hz.symm,rfl,rfl⟩ rfl
     ·have h:(((v.toNat:Nat):Int) != 0)=false:=h
      rw[bne_eq_false_iff_eq]at h
      exact z9 ⟨q9 [0,1] [0,1,5] rfl,UInt8.toNat_inj.mp (by show v.toNat=0;omega)⟩
   ·rw[hv0]at hz
    refine q7 hT ?_
    exact⟨n - 1,by omega,_,q9 [0,1] [0,1,5] rfl,k+1,IntKind.i64.wrap (j+1),by omega,by rw[x9 _ (by omega) (by omega)];omega,hz,rfl⟩
  ·have h:=of_decide_eq_false (show decide (j<((1:Nat):Int))=false from h)
   rw[show 1 - k=0 by omega]at hz
   refine u0 ?_
   exact⟨q9 [0,1] [] rfl,hz⟩
 refine q8 (q7 hT ?_)
 refine x6 ?_
 exact y9 [0,1] ⟨_,hZ.symm,rfl,rfl⟩ rfl
set_option maxHeartbeats 2000000 in
set_option maxRecDepth 20000 in
theorem y7f (M:W8)(hM:Y9 2 M)(c:Nat)(hc:c<2):AFm Tryz.prog 3 q7u [.msl 0 1 0 2,i64 c] [.cells z5 [.msl 1 1 0 2,.msl 2 1 0 2],.row z4 1 (bx (M 0)),.row z4 1 (bx (M 1))] (Q0 (i64 (q4f M 2 c)) [.cells z5 [.msl 1 1 0 2,.msl 2 1 0 2],.row z4 1 (bx (M 0)),.row z4 1 (bx (M 1))]):=by
 refine AFm.mono (R:=fun r H'=>∃ z,z=q4f M 2 c∧r=i64 z∧H'=[.cells z5 [.msl 1 1 0 2,.msl 2 1 0 2],.row z4 1 (bx (M 0)),.row z4 1 (bx (M 1))]) ?_ (by rintro r H' ⟨z,rfl,rfl,rfl⟩;exact⟨rfl,rfl⟩)
 have e0:q4f M 2 c=q7e M c (2 - c) c:=rfl
 generalize q4f M 2 c=Z at e0
 refine Q9 3 hT q7v rfl rfl q7w rfl rfl ?_
 refine q8 (q7 hT ?_)
 refine y8 ⟨⟨22,[]⟩,[.cells z5 [.msl 1 1 0 2,.msl 2 1 0 2],.row z4 1 (bx (M 0)),.row z4 1 (bx (M 1))]⟩ (Z = -1) (q8 (q7 hT ?_)) (fun hZ=>?_)
 ·refine z7 ?_
  refine w7 (fun n s=>∃ (k:Nat) (j:Int),n+k=2∧j=k∧Z=q7e M c (2 - k) k∧s=⟨⟨22,[(0,.msl 0 1 0 2),(1,i64 c),(5,i64 j)]⟩,[.cells z5 [.msl 1 1 0 2,.msl 2 1 0 2],.row z4 1 (bx (M 0)),.row z4 1 (bx (M 1))]⟩) (2 - c) ⟨⟨22,_⟩,_⟩ (q9 [0,1,2] [0,1,5] rfl) ⟨c,c,by omega,rfl,e0,rfl⟩ ?_
  rintro n s ⟨k,j,hnk,hj,hz,rfl⟩
  refine q8 (q8 (q7 hT ?_))
  refine z6 (x7 (fun h=>?_) (fun h=>?_))
  ·have h:=of_decide_eq_true (show decide (j<((2:Nat):Int))=true from h)
   have hk:k<2:=by omega
   refine z9 ?_
   have hzs:q7e M c (2 - k) k=match (M k).getD c 0 != 0 with|true=>(k:Int)|false=>q7e M c (2 - (k+1)) (k+1):=by
    rw[show 2 - k=(2 - (k+1))+1 by omega];rfl
   rw[hzs]at hz
   have hg:=Z3 (l:=M k) (c:=c) (by rw[hM k hk];exact hc)
   have hlt:=((M k).getD c 0).toNat_lt
   generalize hv:(M k).getD c 0=v at hg hz hlt
   have hgx:(bx (M k))[0+((c:Nat):Int).toNat]?=some [u8 v]:=by rw[Int.toNat_natCast,Nat.zero_add];exact Q7 hg
   refine y8 ⟨⟨22,[(0,.msl 0 1 0 2),(1,i64 c),(5,i64 j)]⟩,[.cells z5 [.msl 1 1 0 2,.msl 2 1 0 2],.row z4 1 (bx (M 0)),.row z4 1 (bx (M 1))]⟩ (v=0) (z7 (q8 (q7 hT ?_))) (fun hv0=>?_)
   ·subst hj
    have hk4:k=0∨k=1:=by omega
    rcases hk4 with rfl|rfl
    all_goals
     refine⟨by decide,?_⟩
     refine⟨⟨by omega,by omega⟩,?_⟩
     refine u7 hgx ?_
     refine z6 (x7 (fun h=>?_) (fun h=>?_))
     ·have h:(((v.toNat:Nat):Int) != 0)=true:=h
      rw[bne_iff_ne]at h
      have hne:v≠0:=fun e=>h (by rw[e];rfl)
      rw[bne_iff_ne.mpr hne]at hz
      refine q8 (q7 hT ?_)
      refine x6 ?_
      exact y9 [0,1,2] ⟨_,hz.symm,rfl,rfl⟩ rfl
     ·have h:(((v.toNat:Nat):Int) != 0)=false:=h
      rw[bne_eq_false_iff_eq]at h
      exact z9 ⟨q9 [0,1,2] [0,1,5] rfl,UInt8.toNat_inj.mp (by show v.toNat=0;omega)⟩
   ·rw[hv0]at hz
    refine q7 hT ?_
    exact⟨n - 1,by omega,_,q9 [0,1,2] [0,1,5] rfl,k+1,IntKind.i64.wrap (j+1),by omega,by rw[x9 _ (by omega) (by omega)];omega,hz,rfl⟩
  ·have h:=of_decide_eq_false (show decide (j<((2:Nat):Int))=false from h)
   rw[show 2 - k=0 by omega]at hz
   refine u0 ?_
   exact⟨q9 [0,1,2] [] rfl,hz⟩
 refine q8 (q7 hT ?_)
 refine x6 ?_
 exact y9 [0,1,2] ⟨_,hZ.symm,rfl,rfl⟩ rfl
set_option maxHeartbeats 2000000 in
set_option maxRecDepth 20000 in
theorem z5f (M:W8)(hM:Y9 3 M)(c:Nat)(hc:c<3):AFm Tryz.prog 4 q7u [.msl 0 1 0 3,i64 c] [.cells z5 [.msl 1 1 0 3,.msl 2 1 0 3,.msl 3 1 0 3],.row z4 1 (bx (M 0)),.row z4 1 (bx (M 1)),.row z4 1 (bx (M 2))] (Q0 (i64 (q4f M 3 c)) [.cells z5 [.msl 1 1 0 3,.msl 2 1 0 3,.msl 3 1 0 3],.row z4 1 (bx (M 0)),.row z4 1 (bx (M 1)),.row z4 1 (bx (M 2))]):=by
 refine AFm.mono (R:=fun r H'=>∃ z,z=q4f M 3 c∧r=i64 z∧H'=[.cells z5 [.msl 1 1 0 3,.msl 2 1 0 3,.msl 3 1 0 3],.row z4 1 (bx (M 0)),.row z4 1 (bx (M 1)),.row z4 1 (bx (M 2))]) ?_ (by rintro r H' ⟨z,rfl,rfl,rfl⟩;exact⟨rfl,rfl⟩)
 have e0:q4f M 3 c=q7e M c (3 - c) c:=rfl
 generalize q4f M 3 c=Z at e0
 refine Q9 4 hT q7v rfl rfl q7w rfl rfl ?_
 refine q8 (q7 hT ?_)
 refine y8 ⟨⟨22,[]⟩,[.cells z5 [.msl 1 1 0 3,.msl 2 1 0 3,.msl 3 1 0 3],.row z4 1 (bx (M 0)),.row z4 1 (bx (M 1)),.row z4 1 (bx (M 2))]⟩ (Z = -1) (q8 (q7 hT ?_)) (fun hZ=>?_)
 ·refine z7 ?_
  refine w7 (fun n s=>∃ (k:Nat) (j:Int),n+k=3∧j=k∧Z=q7e M c (3 - k) k∧s=⟨⟨22,[(0,.msl 0 1 0 3),(1,i64 c),(5,i64 j)]⟩,[.cells z5 [.msl 1 1 0 3,.msl 2 1 0 3,.msl 3 1 0 3],.row z4 1 (bx (M 0)),.row z4 1 (bx (M 1)),.row z4 1 (bx (M 2))]⟩) (3 - c) ⟨⟨22,_⟩,_⟩ (q9 [0,1,2,3] [0,1,5] rfl) ⟨c,c,by omega,rfl,e0,rfl⟩ ?_
  rintro n s ⟨k,j,hnk,hj,hz,rfl⟩
  refine q8 (q8 (q7 hT ?_))
  refine z6 (x7 (fun h=>?_) (fun h=>?_))
  ·have h:=of_decide_eq_true (show decide (j<((3:Nat):Int))=true from h)
   have hk:k<3:=by omega
   refine z9 ?_
   have hzs:q7e M c (3 - k) k=match (M k).getD c 0 != 0 with|true=>(k:Int)|false=>q7e M c (3 - (k+1)) (k+1):=by
    rw[show 3 - k=(3 - (k+1))+1 by omega];rfl
   rw[hzs]at hz
   have hg:=Z3 (l:=M k) (c:=c) (by rw[hM k hk];exact hc)
   have hlt:=((M k).getD c 0).toNat_lt
   generalize hv:(M k).getD c 0=v at hg hz hlt
   have hgx:(bx (M k))[0+((c:Nat):Int).toNat]?=some [u8 v]:=by rw[Int.toNat_natCast,Nat.zero_add];exact Q7 hg
   refine y8 ⟨⟨22,[(0,.msl 0 1 0 3),(1,i64 c),(5,i64 j)]⟩,[.cells z5 [.msl 1 1 0 3,.msl 2 1 0 3,.msl 3 1 0 3],.row z4 1 (bx (M 0)),.row z4 1 (bx (M 1)),.row z4 1 (bx (M 2))]⟩ (v=0) (z7 (q8 (q7 hT ?_))) (fun hv0=>?_)
   ·subst hj
    have hk4:k=0∨k=1∨k=2:=by omega
    rcases hk4 with rfl|rfl|rfl
    all_goals
     refine⟨by decide,?_⟩
     refine⟨⟨by omega,by omega⟩,?_⟩
     refine u7 hgx ?_
     refine z6 (x7 (fun h=>?_) (fun h=>?_))
     ·have h:(((v.toNat:Nat):Int) != 0)=true:=h
      rw[bne_iff_ne]at h
      have hne:v≠0:=fun e=>h (by rw[e];rfl)
      rw[bne_iff_ne.mpr hne]at hz
      refine q8 (q7 hT ?_)
      refine x6 ?_
      exact y9 [0,1,2,3] ⟨_,hz.symm,rfl,rfl⟩ rfl
     ·have h:(((v.toNat:Nat):Int) != 0)=false:=h
      rw[bne_eq_false_iff_eq]at h
      exact z9 ⟨q9 [0,1,2,3] [0,1,5] rfl,UInt8.toNat_inj.mp (by show v.toNat=0;omega)⟩
   ·rw[hv0]at hz
    refine q7 hT ?_
    exact⟨n - 1,by omega,_,q9 [0,1,2,3] [0,1,5] rfl,k+1,IntKind.i64.wrap (j+1),by omega,by rw[x9 _ (by omega) (by omega)];omega,hz,rfl⟩
  ·have h:=of_decide_eq_false (show decide (j<((3:Nat):Int))=false from h)
   rw[show 3 - k=0 by omega]at hz
   refine u0 ?_
   exact⟨q9 [0,1,2,3] [] rfl,hz⟩
 refine q8 (q7 hT ?_)
 refine x6 ?_
 exact y9 [0,1,2,3] ⟨_,hZ.symm,rfl,rfl⟩ rfl
set_option maxHeartbeats 2000000 in
set_option maxRecDepth 20000 in
theorem z0m (M:W8)(hM:Y9 4 M)(c:Nat)(hc:c<4):AFm Tryz.prog 5 q7u [.msl 0 1 0 4,i64 c] [.cells z5 [.msl 1 1 0 4,.msl 2 1 0 4,.msl 3 1 0 4,.msl 4 1 0 4],.row z4 1 (bx (M 0)),.row z4 1 (bx (M 1)),.row z4 1 (bx (M 2)),.row z4 1 (bx (M 3))] (Q0 (i64 (q4f M 4 c)) [.cells z5 [.msl 1 1 0 4,.msl 2 1 0 4,.msl 3 1 0 4,.msl 4 1 0 4],.row z4 1 (bx (M 0)),.row z4 1 (bx (M 1)),.row z4 1 (bx (M 2)),.row z4 1 (bx (M 3))]):=by
 refine AFm.mono (R:=fun r H'=>∃ z,z=q4f M 4 c∧r=i64 z∧H'=[.cells z5 [.msl 1 1 0 4,.msl 2 1 0 4,.msl 3 1 0 4,.msl 4 1 0 4],.row z4 1 (bx (M 0)),.row z4 1 (bx (M 1)),.row z4 1 (bx (M 2)),.row z4 1 (bx (M 3))]) ?_ (by rintro r H' ⟨z,rfl,rfl,rfl⟩;exact⟨rfl,rfl⟩)
 have e0:q4f M 4 c=q7e M c (4 - c) c:=rfl
 generalize q4f M 4 c=Z at e0
 refine Q9 5 hT q7v rfl rfl q7w rfl rfl ?_
 refine q8 (q7 hT ?_)
 refine y8 ⟨⟨22,[]⟩,[.cells z5 [.msl 1 1 0 4,.msl 2 1 0 4,.msl 3 1 0 4,.msl 4 1 0 4],.row z4 1 (bx (M 0)),.row z4 1 (bx (M 1)),.row z4 1 (bx (M 2)),.row z4 1 (bx (M 3))]⟩ (Z = -1) (q8 (q7 hT ?_)) (fun hZ=>?_)
 ·refine z7 ?_
  refine w7 (fun n s=>∃ (k:Nat) (j:Int),n+k=4∧j=k∧Z=q7e M c (4 - k) k∧s=⟨⟨22,[(0,.msl 0 1 0 4),(1,i64 c),(5,i64 j)]⟩,[.cells z5 [.msl 1 1 0 4,.msl 2 1 0 4,.msl 3 1 0 4,.msl 4 1 0 4],.row z4 1 (bx (M 0)),.row z4 1 (bx (M 1)),.row z4 1 (bx (M 2)),.row z4 1 (bx (M 3))]⟩) (4 - c) ⟨⟨22,_⟩,_⟩ (q9 [0,1,2,3,4] [0,1,5] rfl) ⟨c,c,by omega,rfl,e0,rfl⟩ ?_
  rintro n s ⟨k,j,hnk,hj,hz,rfl⟩
  refine q8 (q8 (q7 hT ?_))
  refine z6 (x7 (fun h=>?_) (fun h=>?_))
  ·have h:=of_decide_eq_true (show decide (j<((4:Nat):Int))=true from h)
   have hk:k<4:=by omega
   refine z9 ?_
   have hzs:q7e M c (4 - k) k=match (M k).getD c 0 != 0 with|true=>(k:Int)|false=>q7e M c (4 - (k+1)) (k+1):=by
    rw[show 4 - k=(4 - (k+1))+1 by omega];rfl
   rw[hzs]at hz
   have hg:=Z3 (l:=M k) (c:=c) (by rw[hM k hk];exact hc)
   have hlt:=((M k).getD c 0).toNat_lt
   generalize hv:(M k).getD c 0=v at hg hz hlt
   have hgx:(bx (M k))[0+((c:Nat):Int).toNat]?=some [u8 v]:=by rw[Int.toNat_natCast,Nat.zero_add];exact Q7 hg
   refine y8 ⟨⟨22,[(0,.msl 0 1 0 4),(1,i64 c),(5,i64 j)]⟩,[.cells z5 [.msl 1 1 0 4,.msl 2 1 0 4,.msl 3 1 0 4,.msl 4 1 0 4],.row z4 1 (bx (M 0)),.row z4 1 (bx (M 1)),.row z4 1 (bx (M 2)),.row z4 1 (bx (M 3))]⟩ (v=0) (z7 (q8 (q7 hT ?_))) (fun hv0=>?_)
   ·subst hj
    have hk4:k=0∨k=1∨k=2∨k=3:=by omega
    rcases hk4 with rfl|rfl|rfl|rfl
    all_goals
     refine⟨by decide,?_⟩
     refine⟨⟨by omega,by omega⟩,?_⟩
     refine u7 hgx ?_
     refine z6 (x7 (fun h=>?_) (fun h=>?_))
     ·have h:(((v.toNat:Nat):Int) != 0)=true:=h
      rw[bne_iff_ne]at h
      have hne:v≠0:=fun e=>h (by rw[e];rfl)
      rw[bne_iff_ne.mpr hne]at hz
      refine q8 (q7 hT ?_)
      refine x6 ?_
      exact y9 [0,1,2,3,4] ⟨_,hz.symm,rfl,rfl⟩ rfl
     ·have h:(((v.toNat:Nat):Int) != 0)=false:=h
      rw[bne_eq_false_iff_eq]at h
      exact z9 ⟨q9 [0,1,2,3,4] [0,1,5] rfl,UInt8.toNat_inj.mp (by show v.toNat=0;omega)⟩
   ·rw[hv0]at hz
    refine q7 hT ?_
    exact⟨n - 1,by omega,_,q9 [0,1,2,3,4] [0,1,5] rfl,k+1,IntKind.i64.wrap (j+1),by omega,by rw[x9 _ (by omega) (by omega)];omega,hz,rfl⟩
  ·have h:=of_decide_eq_false (show decide (j<((4:Nat):Int))=false from h)
   rw[show 4 - k=0 by omega]at hz
   refine u0 ?_
   exact⟨q9 [0,1,2,3,4] [] rfl,hz⟩
 refine q8 (q7 hT ?_)
 refine x6 ?_
 exact y9 [0,1,2,3,4] ⟨_,hZ.symm,rfl,rfl⟩ rfl
end Go.Proofs.YtinfbclgkghgaaaGreat.AL
