/- A part of the proof. -/
import Derived.Test.YtkjklhcfgbaceaaGreatScrucI
open Go.Proofs.Tryz renaming prog→k0q
open List renaming getElem?_eq_getElem→k0w,getD_eq_getElem?_getD→k0v,length_map→k1x,getElem_mem→k1w,length_replicate→k2z,length_range→k3q
open Int renaming toNat_natCast→k0u
open Nat renaming le_refl→k1v
set_option maxHeartbeats 4000000
set_option maxRecDepth 20000
namespace Go.Proofs.YtkjklhcfgbaceaaGreat.AL
open Go Go.Proofs
theorem y8b {f:FuncId}{args:List AV}{M:Nat→x8}{n:Nat}{e:Int}(hM:∀ i,i<1→(M i).length=n)(h:AF k0q f args [] (Q8 (.tup [.msl 0 1 0 1,i64 e]) [.cells y7 [.msl 1 1 0 n],.row y9 1 (bx (M 0))])):AF k0q f args [] (Q8 (.tup [.msl 0 1 0 1,i64 e]) [.row y7 1 (x9 [M 0])]):=by
 refine z5g h ?_
 rintro _ _ ⟨rfl,rfl⟩
 refine⟨_,_,?_,rfl,rfl⟩
 refine Wk.trans (J9 1 0 0 n rfl rfl rfl (by rw[Z0,hM 0 (by decide)])) ?_
 refine Wk.trans (q2j 0 [bP (M 0)] rfl rfl (show 1≤140737488355328 by decide)) ?_
 exact z6 [0] [0] rfl
theorem x2b {f:FuncId}{args:List AV}{M:Nat→x8}{n:Nat}{e:Int}(hM:∀ i,i<1→(M i).length=n)(h:AF k0q f args [] (Q8 (.tup [.msl 0 1 0 1,i64 e]) [.cells y7 [.msl 1 1 0 n],.row y9 1 (bx (M 0))])):AF k0q f args [] (Q8 (.tup [.p (.sl 1 (x9 [M 0])),i64 e]) []):=
 y4p (t:=y7) (sz:=1) (n:=1) (y8b hM h) rfl rfl
theorem y8c {f:FuncId}{args:List AV}{M:Nat→x8}{n:Nat}{e:Int}(hM:∀ i,i<2→(M i).length=n)(h:AF k0q f args [] (Q8 (.tup [.msl 0 1 0 2,i64 e]) [.cells y7 [.msl 1 1 0 n,.msl 2 1 0 n],.row y9 1 (bx (M 0)),.row y9 1 (bx (M 1))])):AF k0q f args [] (Q8 (.tup [.msl 0 1 0 2,i64 e]) [.row y7 1 (x9 [M 0,M 1])]):=by
 refine z5g h ?_
 rintro _ _ ⟨rfl,rfl⟩
 refine⟨_,_,?_,rfl,rfl⟩
 refine Wk.trans (J9 1 0 0 n rfl rfl rfl (by rw[Z0,hM 0 (by decide)])) ?_
 refine Wk.trans (J9 2 0 1 n rfl rfl rfl (by rw[Z0,hM 1 (by decide)])) ?_
 refine Wk.trans (q2j 0 [bP (M 0),bP (M 1)] rfl rfl (show 2≤140737488355328 by decide)) ?_
 exact z6 [0] [0] rfl
theorem x2c {f:FuncId}{args:List AV}{M:Nat→x8}{n:Nat}{e:Int}(hM:∀ i,i<2→(M i).length=n)(h:AF k0q f args [] (Q8 (.tup [.msl 0 1 0 2,i64 e]) [.cells y7 [.msl 1 1 0 n,.msl 2 1 0 n],.row y9 1 (bx (M 0)),.row y9 1 (bx (M 1))])):AF k0q f args [] (Q8 (.tup [.p (.sl 1 (x9 [M 0,M 1])),i64 e]) []):=
 y4p (t:=y7) (sz:=1) (n:=2) (y8c hM h) rfl rfl
theorem y8d {f:FuncId}{args:List AV}{M:Nat→x8}{n:Nat}{e:Int}(hM:∀ i,i<3→(M i).length=n)(h:AF k0q f args [] (Q8 (.tup [.msl 0 1 0 3,i64 e]) [.cells y7 [.msl 1 1 0 n,.msl 2 1 0 n,.msl 3 1 0 n],.row y9 1 (bx (M 0)),.row y9 1 (bx (M 1)),.row y9 1 (bx (M 2))])):AF k0q f args [] (Q8 (.tup [.msl 0 1 0 3,i64 e]) [.row y7 1 (x9 [M 0,M 1,M 2])]):=by
 refine z5g h ?_
 rintro _ _ ⟨rfl,rfl⟩
 refine⟨_,_,?_,rfl,rfl⟩
 refine Wk.trans (J9 1 0 0 n rfl rfl rfl (by rw[Z0,hM 0 (by decide)])) ?_
 refine Wk.trans (J9 2 0 1 n rfl rfl rfl (by rw[Z0,hM 1 (by decide)])) ?_
 refine Wk.trans (J9 3 0 2 n rfl rfl rfl (by rw[Z0,hM 2 (by decide)])) ?_
 refine Wk.trans (q2j 0 [bP (M 0),bP (M 1),bP (M 2)] rfl rfl (show 3≤140737488355328 by decide)) ?_
 exact z6 [0] [0] rfl
theorem x2d {f:FuncId}{args:List AV}{M:Nat→x8}{n:Nat}{e:Int}(hM:∀ i,i<3→(M i).length=n)(h:AF k0q f args [] (Q8 (.tup [.msl 0 1 0 3,i64 e]) [.cells y7 [.msl 1 1 0 n,.msl 2 1 0 n,.msl 3 1 0 n],.row y9 1 (bx (M 0)),.row y9 1 (bx (M 1)),.row y9 1 (bx (M 2))])):AF k0q f args [] (Q8 (.tup [.p (.sl 1 (x9 [M 0,M 1,M 2])),i64 e]) []):=
 y4p (t:=y7) (sz:=1) (n:=3) (y8d hM h) rfl rfl
theorem y8e {f:FuncId}{args:List AV}{M:Nat→x8}{n:Nat}{e:Int}(hM:∀ i,i<4→(M i).length=n)(h:AF k0q f args [] (Q8 (.tup [.msl 0 1 0 4,i64 e]) [.cells y7 [.msl 1 1 0 n,.msl 2 1 0 n,.msl 3 1 0 n,.msl 4 1 0 n],.row y9 1 (bx (M 0)),.row y9 1 (bx (M 1)),.row y9 1 (bx (M 2)),.row y9 1 (bx (M 3))])):AF k0q f args [] (Q8 (.tup [.msl 0 1 0 4,i64 e]) [.row y7 1 (x9 [M 0,M 1,M 2,M 3])]):=by
 refine z5g h ?_
 rintro _ _ ⟨rfl,rfl⟩
 refine⟨_,_,?_,rfl,rfl⟩
 refine Wk.trans (J9 1 0 0 n rfl rfl rfl (by rw[Z0,hM 0 (by decide)])) ?_
 refine Wk.trans (J9 2 0 1 n rfl rfl rfl (by rw[Z0,hM 1 (by decide)])) ?_
 refine Wk.trans (J9 3 0 2 n rfl rfl rfl (by rw[Z0,hM 2 (by decide)])) ?_
 refine Wk.trans (J9 4 0 3 n rfl rfl rfl (by rw[Z0,hM 3 (by decide)])) ?_
 refine Wk.trans (q2j 0 [bP (M 0),bP (M 1),bP (M 2),bP (M 3)] rfl rfl (show 4≤140737488355328 by decide)) ?_
 exact z6 [0] [0] rfl
theorem w9u {f:FuncId}{args:List AV}{M:Nat→x8}{n:Nat}{e:Int}(hM:∀ i,i<4→(M i).length=n)(h:AF k0q f args [] (Q8 (.tup [.msl 0 1 0 4,i64 e]) [.cells y7 [.msl 1 1 0 n,.msl 2 1 0 n,.msl 3 1 0 n,.msl 4 1 0 n],.row y9 1 (bx (M 0)),.row y9 1 (bx (M 1)),.row y9 1 (bx (M 2)),.row y9 1 (bx (M 3))])):AF k0q f args [] (Q8 (.tup [.p (.sl 1 (x9 [M 0,M 1,M 2,M 3])),i64 e]) []):=
 y4p (t:=y7) (sz:=1) (n:=4) (y8e hM h) rfl rfl
theorem x9k:AF k0q q3q [i64 1] [] (Q8 (.tup [.msl 0 1 0 1,i64 0]) [.cells y7 [.msl 1 1 0 1],.row y9 1 (bx (Z4 idA 1 0))]):=by
 have ws:=q3i 1 (by decide) (by decide)
 have wf:=z4j q6y 1 (by decide) idA (fun i k _ _=>z5v i k)
 refine Q7 hT Tryz.func197 rfl rfl Tryz.ntmps197 rfl ?_
 refine z7 hT ?_
 refine u5 (z7 hT ?_)
 refine Q0 (Q4 ws _ rfl rfl) ?_
 refine y6 ?_
 refine x6 ?_
 refine z7 hT ?_
 refine Q0 wf ?_
 refine u0 ?_
 exact x7 [0,1] ⟨rfl,rfl⟩ rfl
theorem w9v:AF k0q q3q [i64 1] [] (Q8 (.tup [.msl 0 1 0 1,i64 0]) [.row y7 1 (x9 [Z4 idA 1 0])]):=y8b (M:=Z4 idA 1) (fun i _=>by unfold Z4;rw[k1x,k3q]) x9k
theorem x9m:AF k0q q3q [i64 2] [] (Q8 (.tup [.msl 0 1 0 2,i64 0]) [.cells y7 [.msl 1 1 0 2,.msl 2 1 0 2],.row y9 1 (bx (Z4 idA 2 0)),.row y9 1 (bx (Z4 idA 2 1))]):=by
 have ws:=q3i 2 (by decide) (by decide)
 have wf:=z4k q6y 2 (by decide) idA (fun i k _ _=>z5v i k)
 refine Q7 hT Tryz.func197 rfl rfl Tryz.ntmps197 rfl ?_
 refine z7 hT ?_
 refine u5 (z7 hT ?_)
 refine Q0 (Q4 ws _ rfl rfl) ?_
 refine y6 ?_
 refine x6 ?_
 refine z7 hT ?_
 refine Q0 wf ?_
 refine u0 ?_
 exact x7 [0,1,2] ⟨rfl,rfl⟩ rfl
theorem w9w:AF k0q q3q [i64 2] [] (Q8 (.tup [.msl 0 1 0 2,i64 0]) [.row y7 1 (x9 [Z4 idA 2 0,Z4 idA 2 1])]):=y8c (M:=Z4 idA 2) (fun i _=>by unfold Z4;rw[k1x,k3q]) x9m
theorem x9n:AF k0q q3q [i64 3] [] (Q8 (.tup [.msl 0 1 0 3,i64 0]) [.cells y7 [.msl 1 1 0 3,.msl 2 1 0 3,.msl 3 1 0 3],.row y9 1 (bx (Z4 idA 3 0)),.row y9 1 (bx (Z4 idA 3 1)),.row y9 1 (bx (Z4 idA 3 2))]):=by
 have ws:=q3i 3 (by decide) (by decide)
 have wf:=z4m q6y 3 (by decide) idA (fun i k _ _=>z5v i k)
 refine Q7 hT Tryz.func197 rfl rfl Tryz.ntmps197 rfl ?_
 refine z7 hT ?_
 refine u5 (z7 hT ?_)
 refine Q0 (Q4 ws _ rfl rfl) ?_
 refine y6 ?_
 refine x6 ?_
 refine z7 hT ?_
 refine Q0 wf ?_
 refine u0 ?_
 exact x7 [0,1,2,3] ⟨rfl,rfl⟩ rfl
theorem w9x:AF k0q q3q [i64 3] [] (Q8 (.tup [.msl 0 1 0 3,i64 0]) [.row y7 1 (x9 [Z4 idA 3 0,Z4 idA 3 1,Z4 idA 3 2])]):=y8d (M:=Z4 idA 3) (fun i _=>by unfold Z4;rw[k1x,k3q]) x9n
theorem x9p:AF k0q q3q [i64 4] [] (Q8 (.tup [.msl 0 1 0 4,i64 0]) [.cells y7 [.msl 1 1 0 4,.msl 2 1 0 4,.msl 3 1 0 4,.msl 4 1 0 4],.row y9 1 (bx (Z4 idA 4 0)),.row y9 1 (bx (Z4 idA 4 1)),.row y9 1 (bx (Z4 idA 4 2)),.row y9 1 (bx (Z4 idA 4 3))]):=by
 have ws:=q3i 4 (by decide) (by decide)
 have wf:=z4n q6y 4 (by decide) idA (fun i k _ _=>z5v i k)
 refine Q7 hT Tryz.func197 rfl rfl Tryz.ntmps197 rfl ?_
 refine z7 hT ?_
 refine u5 (z7 hT ?_)
 refine Q0 (Q4 ws _ rfl rfl) ?_
 refine y6 ?_
 refine x6 ?_
 refine z7 hT ?_
 refine Q0 wf ?_
 refine u0 ?_
 exact x7 [0,1,2,3,4] ⟨rfl,rfl⟩ rfl
theorem w9y:AF k0q q3q [i64 4] [] (Q8 (.tup [.msl 0 1 0 4,i64 0]) [.row y7 1 (x9 [Z4 idA 4 0,Z4 idA 4 1,Z4 idA 4 2,Z4 idA 4 3])]):=y8e (M:=Z4 idA 4) (fun i _=>by unfold Z4;rw[k1x,k3q]) x9p
theorem x9q (c:Nat)(c1:1≤c)(c2:c≤64):AF k0q q5k [i64 1,i64 c] [] (Q8 (.tup [.p (.sl 1 (x9 [Z4 (q8v c) c 0])),i64 0]) []):=by
 refine x2b (M:=Z4 (q8v c) c) (n:=c) (fun i _=>by unfold Z4;rw[k1x,k3q]) ?_
 have ws:=q3i 1 (by decide) (by decide)
 have wc:=q3i c (by omega) (by omega)
 have wn:=q4p
 have wf:=x5f q5m (.box [.box fP]) (.box [.raw (.int .i64 c)]) c (by omega) (q8v c) (fun i k _ hk=>z2e c i k hk (by omega))
 generalize Z4 (q8v c) c=M at wf ⊢
 unfold q3w at wn
 generalize fP=F at wn wf
 refine Q7 hT Tryz.func198 rfl rfl Tryz.ntmps198 rfl ?_
 refine z7 hT ?_
 refine Z2 (Z3 0 [.raw (.int .i64 c)] rfl rfl) ?_
 refine w9 ⟨⟨20,[(0,i64 1),(3,.p (.box [.raw (.int .i64 c)]))]⟩,[]⟩ True (z7 hT ?_) (fun _=>?_)
 ·refine Q0 (Q4 ws _ rfl rfl) ?_
  refine Q0 (Q4 wc _ rfl rfl) ?_
  refine y6 ?_
  exact x6 ⟨z6 [] [0,3] rfl,trivial⟩
 refine w9 ⟨⟨20,[(0,i64 1),(3,.p (.box [.raw (.int .i64 c)])),(6,.p (.box [.box F]))]⟩,[]⟩ True (z8 hT ?_) (fun _=>?_)
 ·refine Q0 (Q4 wn _ rfl rfl) ?_
  exact⟨Wk.trans (Z3 0 [.box F] rfl rfl) (z6 [] [0,3,6] rfl),trivial⟩
 refine z7 hT ?_
 refine Q0 wf ?_
 refine u0 ?_
 exact x7 [0,1] ⟨rfl,rfl⟩ rfl
theorem x9r (c:Nat)(c1:1≤c)(c2:c≤64):AF k0q q5k [i64 2,i64 c] [] (Q8 (.tup [.p (.sl 1 (x9 [Z4 (q8v c) c 0,Z4 (q8v c) c 1])),i64 0]) []):=by
 refine x2c (M:=Z4 (q8v c) c) (n:=c) (fun i _=>by unfold Z4;rw[k1x,k3q]) ?_
 have ws:=q3i 2 (by decide) (by decide)
 have wc:=q3i c (by omega) (by omega)
 have wn:=q4p
 have wf:=x5g q5m (.box [.box fP]) (.box [.raw (.int .i64 c)]) c (by omega) (q8v c) (fun i k _ hk=>z2e c i k hk (by omega))
 generalize Z4 (q8v c) c=M at wf ⊢
 unfold q3w at wn
 generalize fP=F at wn wf
 refine Q7 hT Tryz.func198 rfl rfl Tryz.ntmps198 rfl ?_
 refine z7 hT ?_
 refine Z2 (Z3 0 [.raw (.int .i64 c)] rfl rfl) ?_
 refine w9 ⟨⟨20,[(0,i64 2),(3,.p (.box [.raw (.int .i64 c)]))]⟩,[]⟩ True (z7 hT ?_) (fun _=>?_)
 ·refine Q0 (Q4 ws _ rfl rfl) ?_
  refine Q0 (Q4 wc _ rfl rfl) ?_
  refine y6 ?_
  exact x6 ⟨z6 [] [0,3] rfl,trivial⟩
 refine w9 ⟨⟨20,[(0,i64 2),(3,.p (.box [.raw (.int .i64 c)])),(6,.p (.box [.box F]))]⟩,[]⟩ True (z8 hT ?_) (fun _=>?_)
 ·refine Q0 (Q4 wn _ rfl rfl) ?_
  exact⟨Wk.trans (Z3 0 [.box F] rfl rfl) (z6 [] [0,3,6] rfl),trivial⟩
 refine z7 hT ?_
 refine Q0 wf ?_
 refine u0 ?_
 exact x7 [0,1,2] ⟨rfl,rfl⟩ rfl
theorem x9s (c:Nat)(c1:1≤c)(c2:c≤64):AF k0q q5k [i64 3,i64 c] [] (Q8 (.tup [.p (.sl 1 (x9 [Z4 (q8v c) c 0,Z4 (q8v c) c 1,Z4 (q8v c) c 2])),i64 0]) []):=by
 refine x2d (M:=Z4 (q8v c) c) (n:=c) (fun i _=>by unfold Z4;rw[k1x,k3q]) ?_
 have ws:=q3i 3 (by decide) (by decide)
 have wc:=q3i c (by omega) (by omega)
 have wn:=q4p
 have wf:=x5h q5m (.box [.box fP]) (.box [.raw (.int .i64 c)]) c (by omega) (q8v c) (fun i k _ hk=>z2e c i k hk (by omega))
 generalize Z4 (q8v c) c=M at wf ⊢
 unfold q3w at wn
 generalize fP=F at wn wf
 refine Q7 hT Tryz.func198 rfl rfl Tryz.ntmps198 rfl ?_
 refine z7 hT ?_
 refine Z2 (Z3 0 [.raw (.int .i64 c)] rfl rfl) ?_
 refine w9 ⟨⟨20,[(0,i64 3),(3,.p (.box [.raw (.int .i64 c)]))]⟩,[]⟩ True (z7 hT ?_) (fun _=>?_)
 ·refine Q0 (Q4 ws _ rfl rfl) ?_
  refine Q0 (Q4 wc _ rfl rfl) ?_
  refine y6 ?_
  exact x6 ⟨z6 [] [0,3] rfl,trivial⟩
 refine w9 ⟨⟨20,[(0,i64 3),(3,.p (.box [.raw (.int .i64 c)])),(6,.p (.box [.box F]))]⟩,[]⟩ True (z8 hT ?_) (fun _=>?_)
 ·refine Q0 (Q4 wn _ rfl rfl) ?_
  exact⟨Wk.trans (Z3 0 [.box F] rfl rfl) (z6 [] [0,3,6] rfl),trivial⟩
 refine z7 hT ?_
 refine Q0 wf ?_
 refine u0 ?_
 exact x7 [0,1,2,3] ⟨rfl,rfl⟩ rfl
end Go.Proofs.YtkjklhcfgbaceaaGreat.AL
/- The layer 2 (mat): the product of two matrices (printed by genmat.py). -/
namespace Go.Proofs.YtkjklhcfgbaceaaGreat.AL
open Go Go.Proofs
def Q5 (a:x8)(B:List x8)(c:Nat):Nat→x8
 |0=>List.replicate c 0
 |k+1=>q2e (Q5 a B c k) (B.getD k []) (a.getD k 0)
theorem Y8 {B:List x8}(a:x8){c:Nat}(hB:∀ s∈B,s.length=c):∀ {k:Nat},k≤B.length→(Q5 a B c k).length=c
 |0,_=>k2z
 |k+1,h=>by
  have ih:=Y8 (B:=B) a hB (k:=k) (by omega)
  have hk:=k0w (show k<B.length by omega)
  have hl:=hB _ (k1w (show k<B.length by omega))
  rw[Q5,q8m _ (by rw[ih,k0v,hk];exact hl.symm),ih]
theorem U0 {a:x8}{B:List x8}(c:Nat){k:Nat}{x:UInt8}{b:x8}(ha:a[k]?=some x)(hb:B[k]?=some b):Q5 a B c (k+1)=q2e (Q5 a B c k) b x:=by
 rw[Q5,k0v,k0v,ha,hb];rfl
theorem q4u (a:x8)(B:List x8)(c i:Nat):Z4 (fun _ _=>0) c i=Q5 a B c 0:=by
 unfold Z4 Q5
 rw[List.map_const',k3q]
theorem w9z (a0:x8)(B:List x8)(q c:Nat)(q1:1≤q)(q2:q≤64)(c1:1≤c)(c2:c≤4096)(hA:∀ s∈([a0]:List x8),s.length=q)(hB:B.length=q)(hBc:∀ s∈B,s.length=c) :
 AF k0q q0q [.p (.sl 1 (x9 [a0])),.p (.sl 1 (x9 B))] [] (Q8 (.tup [.msl 0 1 0 1,i64 0]) [.cells y7 [.msl 1 1 0 c],.row y9 1 (bx (Q5 a0 B c q))]):=by
 have wA:=q0g [a0] q (show 1≤1 by decide) (show 1≤64 by decide) q1 (by omega) hA
 have wB:=q0g B c (by omega) (by omega) c1 c2 hBc
 have wn:=q4p
 have hcl:=Y5 B
 have h0:=k0w (show 0<B.length by omega)
 have hc0:=hBc _ (k1w (show 0<B.length by omega))
 generalize B[0]=b0 at h0 hc0
 have hx0:(x9 B)[(0:Int).toNat]?=some [bP b0]:=Y2 h0
 have hb0:=Z0 b0
 have wf:=z4j q1j (bx b0).length (by omega) (fun _ _=>0) (fun i k _ _=>q4t i k)
 have ha0:a0.length=q:=hA a0 (by simp)
 have hx10:=Z0 a0
 have wadd:=fun(to row:x8) (x:UInt8) (ht:to.length=c) (hr:row.length=c)=>q7c to row x (by omega) (by omega)
 unfold q3w at wn wadd
 generalize fP=F at wn wadd
 refine Q7 hT Tryz.func164 rfl rfl Tryz.ntmps164 rfl ?_
 refine z7 hT ?_
 refine w9 ⟨⟨65,[(0,.p (.sl 1 (x9 [a0]))),(1,.p (.sl 1 (x9 B)))]⟩,[]⟩ True (z7 hT ?_) (fun _=>?_)
 ·refine Q0 (Q4 wA _ rfl rfl) ?_
  refine Q0 (Q4 wB _ rfl rfl) ?_
  refine⟨by decide,Z1 rfl ?_⟩
  refine y6 (u7 (fun h=>?_) (fun h=>?_))
  ·have h:((((bx a0).length:Nat):Int) != (((x9 B).length:Nat):Int))=true:=h
   rw[bne_iff_ne]at h
   omega
  exact x6 ⟨z6 [] [0,1] rfl,trivial⟩
 refine z7 hT ?_
 refine Q0 (Q4 wn _ rfl rfl) ?_
 refine Q3 (fun st=>∃ c',c'=c∧st=⟨⟨65,[(0,.p (.sl 1 (x9 [a0]))),(1,.p (.sl 1 (x9 B))),(6,.p (.box F)),(7,.msl 0 1 0 1)]⟩,[.cells y7 [.msl 1 1 0 c'],.row y9 1 (bx (Z4 (fun _ _=>0) c' 0))]⟩) (z8 hT ?_) ?_
 ·refine⟨by decide,Z1 hx0 ?_⟩
  refine Q0 wf ?_
  exact⟨_,z6 [0,1] [0,1,6,7] rfl,_,hb0.trans hc0,rfl⟩
 rintro _ ⟨c,rfl,rfl⟩
 clear wf
 refine w9 ⟨⟨65,[(7,.msl 0 1 0 1)]⟩,[.cells y7 [.msl 1 1 0 c],.row y9 1 (bx (Q5 a0 B c q))]⟩ True (z7 hT ?_) (fun _=>?_)
 ·refine y8 ?_
  refine Q2 (fun n s=>(n=1∧s=⟨⟨65,[(0,.p (.sl 1 (x9 [a0]))),(1,.p (.sl 1 (x9 B))),(6,.p (.box F)),(7,.msl 0 1 0 1),(37,.p (.sl 1 (x9 [a0]))),(38,i64 1),(39,i64 0)]⟩,[.cells y7 [.msl 1 1 0 c],.row y9 1 (bx (Q5 a0 B c 0))]⟩)∨(n=0∧s=⟨⟨65,[(0,.p (.sl 1 (x9 [a0]))),(1,.p (.sl 1 (x9 B))),(6,.p (.box F)),(7,.msl 0 1 0 1),(37,.p (.sl 1 (x9 [a0]))),(38,i64 1),(39,i64 1)]⟩,[.cells y7 [.msl 1 1 0 c],.row y9 1 (bx (Q5 a0 B c q))]⟩)) 1 ⟨⟨65,_⟩,_⟩ (z6 [0,1] [0,1,6,7,37,38,39] rfl) (.inl ⟨rfl,by rw[q4u a0 B c 0];rfl⟩) ?_
  rintro n s (⟨rfl,rfl⟩|⟨rfl,rfl⟩)
  ·refine z7 hT ?_
   refine u5 (y6 ?_)
   refine x6 ?_
   refine w9 ⟨⟨65,[(0,.p (.sl 1 (x9 [a0]))),(1,.p (.sl 1 (x9 B))),(6,.p (.box F)),(7,.msl 0 1 0 1),(37,.p (.sl 1 (x9 [a0]))),(38,i64 1),(8,i64 0),(39,i64 0)]⟩,[.cells y7 [.msl 1 1 0 c],.row y9 1 (bx (Q5 a0 B c q))]⟩ True (y8 ?_) (fun _=>?_)
   ·refine z7 hT ?_
    refine⟨by decide,Z1 rfl ?_⟩
    refine z7 hT ?_
    refine y8 ?_
    refine Q2 (fun n s=>∃ (k:Nat) (j:Int),n+k=q∧j=k∧s=⟨⟨65,[(0,.p (.sl 1 (x9 [a0]))),(1,.p (.sl 1 (x9 B))),(6,.p (.box F)),(7,.msl 0 1 0 1),(37,.p (.sl 1 (x9 [a0]))),(38,i64 1),(8,i64 0),(39,i64 0),(44,bA a0),(45,i64 (bx a0).length),(46,i64 j)]⟩,[.cells y7 [.msl 1 1 0 c],.row y9 1 (bx (Q5 a0 B c k))]⟩) q ⟨⟨65,_⟩,_⟩ (z6 [0,1] [0,1,6,7,37,38,8,39,44,45,46] rfl) ⟨0,0,by omega,rfl,rfl⟩ ?_
    rintro n2 s ⟨k,j,hnk,hj,rfl⟩
    refine z7 hT ?_
    refine u5 (y6 (u7 (fun h=>?_) (fun h=>?_)))
    ·have h:=k0z (show decide (j<(((bx a0).length:Nat):Int))=true from h)
     have hk:k<a0.length:=by omega
     have hkB:k<B.length:=by omega
     refine x6 ?_
     have hxa:=k0w hk
     have hxb:=k0w hkB
     have hst:=U0 c hxa hxb
     have hlb:=hBc _ (k1w hkB)
     generalize a0[k]=x at hxa hst
     generalize B[k]=b at hxb hst hlb
     have hxp:(bx a0)[j.toNat]?=some [u8 x]:=by rw[hj,k0u];exact W4 hxa
     have hbp:(x9 B)[j.toNat]?=some [bP b]:=by rw[hj,k0u];exact Y2 hxb
     have hml:=Y8 (B:=B) a0 hBc (k:=k) (by omega)
     have w:=wadd (Q5 a0 B c k) b x hml hlb
     rw[hml,← hst]at w
     refine w9 ⟨⟨65,[(0,.p (.sl 1 (x9 [a0]))),(1,.p (.sl 1 (x9 B))),(6,.p (.box F)),(7,.msl 0 1 0 1),(37,.p (.sl 1 (x9 [a0]))),(38,i64 1),(8,i64 0),(39,i64 0),(44,bA a0),(45,i64 (bx a0).length),(46,i64 j)]⟩,[.cells y7 [.msl 1 1 0 c],.row y9 1 (bx (Q5 a0 B c (k+1)))]⟩ True (y8 (z7 hT ?_)) (fun _=>?_)
     ·refine⟨by omega,Z1 hxp ?_⟩
      refine Q9 [10] [] hT u6 (by rfl) ?_
      refine⟨by decide,?_⟩
      refine⟨by omega,Z1 hbp ?_⟩
      refine⟨_,_,Z7 [1] w rfl rfl rfl,?_⟩
      repeat first|refine⟨rfl,?_⟩|refine⟨⟨by decide,rfl⟩,?_⟩|refine⟨⟨by omega,Z1 hbp rfl⟩,?_⟩
      exact⟨z6 [0,1] [0,1,6,7,37,38,8,39,44,45,46] rfl,trivial⟩
     ·refine z8 hT ?_
      exact⟨n2 - 1,by omega,_,z6 [0,1] [0,1,6,7,37,38,8,39,44,45,46] rfl,k+1,IntKind.i64.wrap (j+1),by omega,by rw[Q1 _ (by omega) (by omega)];omega,rfl⟩
    ·have h:=k0y (show decide (j<(((bx a0).length:Nat):Int))=false from h)
     rw[show k=q by omega]
     refine Q6 ?_
     exact⟨z6 [0,1] [0,1,6,7,37,38,8,39] rfl,trivial⟩
   ·refine z8 hT ?_
    exact⟨0,by decide,_,z6 [0,1] [0,1,6,7,37,38,39] rfl,(.inr ⟨rfl,rfl⟩)⟩
  ·refine z7 hT ?_
   refine u5 (y6 ?_)
   refine Q6 ?_
   exact⟨z6 [0,1] [7] rfl,trivial⟩
 refine z7 hT ?_
 refine u0 ?_
 exact x7 [0,1] ⟨rfl,rfl⟩ rfl
theorem v0a (a0:x8)(B:List x8)(q c:Nat)(q1:1≤q)(q2:q≤64)(c1:1≤c)(c2:c≤4096)(hA:∀ s∈([a0]:List x8),s.length=q)(hB:B.length=q)(hBc:∀ s∈B,s.length=c) :
 AF k0q q0q [.p (.sl 1 (x9 [a0])),.p (.sl 1 (x9 B))] [] (Q8 (.tup [.msl 0 1 0 1,i64 0]) [.row y7 1 (x9 [Q5 a0 B c q])]):=by
 refine y8b (M:=fun i=>([Q5 a0 B c q]:List x8).getD i []) (n:=c) (fun i hi=>?_) (w9z a0 B q c q1 q2 c1 c2 hA hB hBc)
 have:i=0:=by omega
 rcases this with rfl <;> exact Y8 _ hBc (by omega)
theorem v0b (a0 a1:x8)(B:List x8)(q c:Nat)(q1:1≤q)(q2:q≤64)(c1:1≤c)(c2:c≤4096)(hA:∀ s∈([a0,a1]:List x8),s.length=q)(hB:B.length=q)(hBc:∀ s∈B,s.length=c) :
 AF k0q q0q [.p (.sl 1 (x9 [a0,a1])),.p (.sl 1 (x9 B))] [] (Q8 (.tup [.msl 0 1 0 2,i64 0]) [.cells y7 [.msl 1 1 0 c,.msl 2 1 0 c],.row y9 1 (bx (Q5 a0 B c q)),.row y9 1 (bx (Q5 a1 B c q))]):=by
 have wA:=q0g [a0,a1] q (show 1≤2 by decide) (show 2≤64 by decide) q1 (by omega) hA
 have wB:=q0g B c (by omega) (by omega) c1 c2 hBc
 have wn:=q4p
 have hcl:=Y5 B
 have h0:=k0w (show 0<B.length by omega)
 have hc0:=hBc _ (k1w (show 0<B.length by omega))
 generalize B[0]=b0 at h0 hc0
 have hx0:(x9 B)[(0:Int).toNat]?=some [bP b0]:=Y2 h0
 have hb0:=Z0 b0
 have wf:=z4k q1j (bx b0).length (by omega) (fun _ _=>0) (fun i k _ _=>q4t i k)
 have ha0:a0.length=q:=hA a0 (by simp)
 have hx10:=Z0 a0
 have ha1:a1.length=q:=hA a1 (by simp)
 have hx11:=Z0 a1
 have wadd:=fun(to row:x8) (x:UInt8) (ht:to.length=c) (hr:row.length=c)=>q7c to row x (by omega) (by omega)
 unfold q3w at wn wadd
 generalize fP=F at wn wadd
 refine Q7 hT Tryz.func164 rfl rfl Tryz.ntmps164 rfl ?_
 refine z7 hT ?_
 refine w9 ⟨⟨65,[(0,.p (.sl 1 (x9 [a0,a1]))),(1,.p (.sl 1 (x9 B)))]⟩,[]⟩ True (z7 hT ?_) (fun _=>?_)
 ·refine Q0 (Q4 wA _ rfl rfl) ?_
  refine Q0 (Q4 wB _ rfl rfl) ?_
  refine⟨by decide,Z1 rfl ?_⟩
  refine y6 (u7 (fun h=>?_) (fun h=>?_))
  ·have h:((((bx a0).length:Nat):Int) != (((x9 B).length:Nat):Int))=true:=h
   rw[bne_iff_ne]at h
   omega
  exact x6 ⟨z6 [] [0,1] rfl,trivial⟩
 refine z7 hT ?_
 refine Q0 (Q4 wn _ rfl rfl) ?_
 refine Q3 (fun st=>∃ c',c'=c∧st=⟨⟨65,[(0,.p (.sl 1 (x9 [a0,a1]))),(1,.p (.sl 1 (x9 B))),(6,.p (.box F)),(7,.msl 0 1 0 2)]⟩,[.cells y7 [.msl 1 1 0 c',.msl 2 1 0 c'],.row y9 1 (bx (Z4 (fun _ _=>0) c' 0)),.row y9 1 (bx (Z4 (fun _ _=>0) c' 1))]⟩) (z8 hT ?_) ?_
 ·refine⟨by decide,Z1 hx0 ?_⟩
  refine Q0 wf ?_
  exact⟨_,z6 [0,1,2] [0,1,6,7] rfl,_,hb0.trans hc0,rfl⟩
 rintro _ ⟨c,rfl,rfl⟩
 clear wf
 refine w9 ⟨⟨65,[(7,.msl 0 1 0 2)]⟩,[.cells y7 [.msl 1 1 0 c,.msl 2 1 0 c],.row y9 1 (bx (Q5 a0 B c q)),.row y9 1 (bx (Q5 a1 B c q))]⟩ True (z7 hT ?_) (fun _=>?_)
 ·refine y8 ?_
  refine Q2 (fun n s=>(n=2∧s=⟨⟨65,[(0,.p (.sl 1 (x9 [a0,a1]))),(1,.p (.sl 1 (x9 B))),(6,.p (.box F)),(7,.msl 0 1 0 2),(37,.p (.sl 1 (x9 [a0,a1]))),(38,i64 2),(39,i64 0)]⟩,[.cells y7 [.msl 1 1 0 c,.msl 2 1 0 c],.row y9 1 (bx (Q5 a0 B c 0)),.row y9 1 (bx (Q5 a1 B c 0))]⟩)∨(n=1∧s=⟨⟨65,[(0,.p (.sl 1 (x9 [a0,a1]))),(1,.p (.sl 1 (x9 B))),(6,.p (.box F)),(7,.msl 0 1 0 2),(37,.p (.sl 1 (x9 [a0,a1]))),(38,i64 2),(39,i64 1)]⟩,[.cells y7 [.msl 1 1 0 c,.msl 2 1 0 c],.row y9 1 (bx (Q5 a0 B c q)),.row y9 1 (bx (Q5 a1 B c 0))]⟩)∨(n=0∧s=⟨⟨65,[(0,.p (.sl 1 (x9 [a0,a1]))),(1,.p (.sl 1 (x9 B))),(6,.p (.box F)),(7,.msl 0 1 0 2),(37,.p (.sl 1 (x9 [a0,a1]))),(38,i64 2),(39,i64 2)]⟩,[.cells y7 [.msl 1 1 0 c,.msl 2 1 0 c],.row y9 1 (bx (Q5 a0 B c q)),.row y9 1 (bx (Q5 a1 B c q))]⟩)) 2 ⟨⟨65,_⟩,_⟩ (z6 [0,1,2] [0,1,6,7,37,38,39] rfl) (.inl ⟨rfl,by rw[q4u a0 B c 0,q4u a1 B c 1];rfl⟩) ?_
  rintro n s (⟨rfl,rfl⟩|⟨rfl,rfl⟩|⟨rfl,rfl⟩)
  ·refine z7 hT ?_
   refine u5 (y6 ?_)
   refine x6 ?_
   refine w9 ⟨⟨65,[(0,.p (.sl 1 (x9 [a0,a1]))),(1,.p (.sl 1 (x9 B))),(6,.p (.box F)),(7,.msl 0 1 0 2),(37,.p (.sl 1 (x9 [a0,a1]))),(38,i64 2),(8,i64 0),(39,i64 0)]⟩,[.cells y7 [.msl 1 1 0 c,.msl 2 1 0 c],.row y9 1 (bx (Q5 a0 B c q)),.row y9 1 (bx (Q5 a1 B c 0))]⟩ True (y8 ?_) (fun _=>?_)
   ·refine z7 hT ?_
    refine⟨by decide,Z1 rfl ?_⟩
    refine z7 hT ?_
    refine y8 ?_
    refine Q2 (fun n s=>∃ (k:Nat) (j:Int),n+k=q∧j=k∧s=⟨⟨65,[(0,.p (.sl 1 (x9 [a0,a1]))),(1,.p (.sl 1 (x9 B))),(6,.p (.box F)),(7,.msl 0 1 0 2),(37,.p (.sl 1 (x9 [a0,a1]))),(38,i64 2),(8,i64 0),(39,i64 0),(44,bA a0),(45,i64 (bx a0).length),(46,i64 j)]⟩,[.cells y7 [.msl 1 1 0 c,.msl 2 1 0 c],.row y9 1 (bx (Q5 a0 B c k)),.row y9 1 (bx (Q5 a1 B c 0))]⟩) q ⟨⟨65,_⟩,_⟩ (z6 [0,1,2] [0,1,6,7,37,38,8,39,44,45,46] rfl) ⟨0,0,by omega,rfl,rfl⟩ ?_
    rintro n2 s ⟨k,j,hnk,hj,rfl⟩
    refine z7 hT ?_
    refine u5 (y6 (u7 (fun h=>?_) (fun h=>?_)))
    ·have h:=k0z (show decide (j<(((bx a0).length:Nat):Int))=true from h)
     have hk:k<a0.length:=by omega
     have hkB:k<B.length:=by omega
     refine x6 ?_
     have hxa:=k0w hk
     have hxb:=k0w hkB
     have hst:=U0 c hxa hxb
     have hlb:=hBc _ (k1w hkB)
     generalize a0[k]=x at hxa hst
     generalize B[k]=b at hxb hst hlb
     have hxp:(bx a0)[j.toNat]?=some [u8 x]:=by rw[hj,k0u];exact W4 hxa
     have hbp:(x9 B)[j.toNat]?=some [bP b]:=by rw[hj,k0u];exact Y2 hxb
     have hml:=Y8 (B:=B) a0 hBc (k:=k) (by omega)
     have w:=wadd (Q5 a0 B c k) b x hml hlb
     rw[hml,← hst]at w
     refine w9 ⟨⟨65,[(0,.p (.sl 1 (x9 [a0,a1]))),(1,.p (.sl 1 (x9 B))),(6,.p (.box F)),(7,.msl 0 1 0 2),(37,.p (.sl 1 (x9 [a0,a1]))),(38,i64 2),(8,i64 0),(39,i64 0),(44,bA a0),(45,i64 (bx a0).length),(46,i64 j)]⟩,[.cells y7 [.msl 1 1 0 c,.msl 2 1 0 c],.row y9 1 (bx (Q5 a0 B c (k+1))),.row y9 1 (bx (Q5 a1 B c 0))]⟩ True (y8 (z7 hT ?_)) (fun _=>?_)
     ·refine⟨by omega,Z1 hxp ?_⟩
      refine Q9 [10] [] hT u6 (by rfl) ?_
      refine⟨by decide,?_⟩
      refine⟨by omega,Z1 hbp ?_⟩
      refine⟨_,_,Z7 [1] w rfl rfl rfl,?_⟩
      repeat first|refine⟨rfl,?_⟩|refine⟨⟨by decide,rfl⟩,?_⟩|refine⟨⟨by omega,Z1 hbp rfl⟩,?_⟩
      exact⟨z6 [0,1,2] [0,1,6,7,37,38,8,39,44,45,46] rfl,trivial⟩
     ·refine z8 hT ?_
      exact⟨n2 - 1,by omega,_,z6 [0,1,2] [0,1,6,7,37,38,8,39,44,45,46] rfl,k+1,IntKind.i64.wrap (j+1),by omega,by rw[Q1 _ (by omega) (by omega)];omega,rfl⟩
    ·have h:=k0y (show decide (j<(((bx a0).length:Nat):Int))=false from h)
     rw[show k=q by omega]
     refine Q6 ?_
     exact⟨z6 [0,1,2] [0,1,6,7,37,38,8,39] rfl,trivial⟩
   ·refine z8 hT ?_
    exact⟨1,by decide,_,z6 [0,1,2] [0,1,6,7,37,38,39] rfl,(.inr (.inl ⟨rfl,rfl⟩))⟩
  ·refine z7 hT ?_
   refine u5 (y6 ?_)
   refine x6 ?_
   refine w9 ⟨⟨65,[(0,.p (.sl 1 (x9 [a0,a1]))),(1,.p (.sl 1 (x9 B))),(6,.p (.box F)),(7,.msl 0 1 0 2),(37,.p (.sl 1 (x9 [a0,a1]))),(38,i64 2),(8,i64 1),(39,i64 1)]⟩,[.cells y7 [.msl 1 1 0 c,.msl 2 1 0 c],.row y9 1 (bx (Q5 a0 B c q)),.row y9 1 (bx (Q5 a1 B c q))]⟩ True (y8 ?_) (fun _=>?_)
   ·refine z7 hT ?_
    refine⟨by decide,Z1 rfl ?_⟩
    refine z7 hT ?_
    refine y8 ?_
    refine Q2 (fun n s=>∃ (k:Nat) (j:Int),n+k=q∧j=k∧s=⟨⟨65,[(0,.p (.sl 1 (x9 [a0,a1]))),(1,.p (.sl 1 (x9 B))),(6,.p (.box F)),(7,.msl 0 1 0 2),(37,.p (.sl 1 (x9 [a0,a1]))),(38,i64 2),(8,i64 1),(39,i64 1),(44,bA a1),(45,i64 (bx a1).length),(46,i64 j)]⟩,[.cells y7 [.msl 1 1 0 c,.msl 2 1 0 c],.row y9 1 (bx (Q5 a0 B c q)),.row y9 1 (bx (Q5 a1 B c k))]⟩) q ⟨⟨65,_⟩,_⟩ (z6 [0,1,2] [0,1,6,7,37,38,8,39,44,45,46] rfl) ⟨0,0,by omega,rfl,rfl⟩ ?_
    rintro n2 s ⟨k,j,hnk,hj,rfl⟩
    refine z7 hT ?_
    refine u5 (y6 (u7 (fun h=>?_) (fun h=>?_)))
    ·have h:=k0z (show decide (j<(((bx a1).length:Nat):Int))=true from h)
     have hk:k<a1.length:=by omega
     have hkB:k<B.length:=by omega
     refine x6 ?_
     have hxa:=k0w hk
     have hxb:=k0w hkB
     have hst:=U0 c hxa hxb
     have hlb:=hBc _ (k1w hkB)
     generalize a1[k]=x at hxa hst
     generalize B[k]=b at hxb hst hlb
     have hxp:(bx a1)[j.toNat]?=some [u8 x]:=by rw[hj,k0u];exact W4 hxa
     have hbp:(x9 B)[j.toNat]?=some [bP b]:=by rw[hj,k0u];exact Y2 hxb
     have hml:=Y8 (B:=B) a1 hBc (k:=k) (by omega)
     have w:=wadd (Q5 a1 B c k) b x hml hlb
     rw[hml,← hst]at w
     refine w9 ⟨⟨65,[(0,.p (.sl 1 (x9 [a0,a1]))),(1,.p (.sl 1 (x9 B))),(6,.p (.box F)),(7,.msl 0 1 0 2),(37,.p (.sl 1 (x9 [a0,a1]))),(38,i64 2),(8,i64 1),(39,i64 1),(44,bA a1),(45,i64 (bx a1).length),(46,i64 j)]⟩,[.cells y7 [.msl 1 1 0 c,.msl 2 1 0 c],.row y9 1 (bx (Q5 a0 B c q)),.row y9 1 (bx (Q5 a1 B c (k+1)))]⟩ True (y8 (z7 hT ?_)) (fun _=>?_)
     ·refine⟨by omega,Z1 hxp ?_⟩
      refine Q9 [10] [] hT u6 (by rfl) ?_
      refine⟨by decide,?_⟩
      refine⟨by omega,Z1 hbp ?_⟩
      refine⟨_,_,Z7 [2] w rfl rfl rfl,?_⟩
      repeat first|refine⟨rfl,?_⟩|refine⟨⟨by decide,rfl⟩,?_⟩|refine⟨⟨by omega,Z1 hbp rfl⟩,?_⟩
      exact⟨z6 [0,1,2] [0,1,6,7,37,38,8,39,44,45,46] rfl,trivial⟩
     ·refine z8 hT ?_
      exact⟨n2 - 1,by omega,_,z6 [0,1,2] [0,1,6,7,37,38,8,39,44,45,46] rfl,k+1,IntKind.i64.wrap (j+1),by omega,by rw[Q1 _ (by omega) (by omega)];omega,rfl⟩
    ·have h:=k0y (show decide (j<(((bx a1).length:Nat):Int))=false from h)
     rw[show k=q by omega]
     refine Q6 ?_
     exact⟨z6 [0,1,2] [0,1,6,7,37,38,8,39] rfl,trivial⟩
   ·refine z8 hT ?_
    exact⟨0,by decide,_,z6 [0,1,2] [0,1,6,7,37,38,39] rfl,(.inr (.inr ⟨rfl,rfl⟩))⟩
  ·refine z7 hT ?_
   refine u5 (y6 ?_)
   refine Q6 ?_
   exact⟨z6 [0,1,2] [7] rfl,trivial⟩
 refine z7 hT ?_
 refine u0 ?_
 exact x7 [0,1,2] ⟨rfl,rfl⟩ rfl
theorem v0c (a0 a1:x8)(B:List x8)(q c:Nat)(q1:1≤q)(q2:q≤64)(c1:1≤c)(c2:c≤4096)(hA:∀ s∈([a0,a1]:List x8),s.length=q)(hB:B.length=q)(hBc:∀ s∈B,s.length=c) :
 AF k0q q0q [.p (.sl 1 (x9 [a0,a1])),.p (.sl 1 (x9 B))] [] (Q8 (.tup [.msl 0 1 0 2,i64 0]) [.row y7 1 (x9 [Q5 a0 B c q,Q5 a1 B c q])]):=by
 refine y8c (M:=fun i=>([Q5 a0 B c q,Q5 a1 B c q]:List x8).getD i []) (n:=c) (fun i hi=>?_) (v0b a0 a1 B q c q1 q2 c1 c2 hA hB hBc)
 have:i=0∨i=1:=by omega
 rcases this with rfl|rfl <;> exact Y8 _ hBc (by omega)
theorem v0d (a0 a1 a2:x8)(B:List x8)(q c:Nat)(q1:1≤q)(q2:q≤64)(c1:1≤c)(c2:c≤4096)(hA:∀ s∈([a0,a1,a2]:List x8),s.length=q)(hB:B.length=q)(hBc:∀ s∈B,s.length=c) :
 AF k0q q0q [.p (.sl 1 (x9 [a0,a1,a2])),.p (.sl 1 (x9 B))] [] (Q8 (.tup [.msl 0 1 0 3,i64 0]) [.cells y7 [.msl 1 1 0 c,.msl 2 1 0 c,.msl 3 1 0 c],.row y9 1 (bx (Q5 a0 B c q)),.row y9 1 (bx (Q5 a1 B c q)),.row y9 1 (bx (Q5 a2 B c q))]):=by
 have wA:=q0g [a0,a1,a2] q (show 1≤3 by decide) (show 3≤64 by decide) q1 (by omega) hA
 have wB:=q0g B c (by omega) (by omega) c1 c2 hBc
 have wn:=q4p
 have hcl:=Y5 B
 have h0:=k0w (show 0<B.length by omega)
 have hc0:=hBc _ (k1w (show 0<B.length by omega))
 generalize B[0]=b0 at h0 hc0
 have hx0:(x9 B)[(0:Int).toNat]?=some [bP b0]:=Y2 h0
 have hb0:=Z0 b0
 have wf:=z4m q1j (bx b0).length (by omega) (fun _ _=>0) (fun i k _ _=>q4t i k)
 have ha0:a0.length=q:=hA a0 (by simp)
 have hx10:=Z0 a0
 have ha1:a1.length=q:=hA a1 (by simp)
 have hx11:=Z0 a1
 have ha2:a2.length=q:=hA a2 (by simp)
 have hx12:=Z0 a2
 have wadd:=fun(to row:x8) (x:UInt8) (ht:to.length=c) (hr:row.length=c)=>q7c to row x (by omega) (by omega)
 unfold q3w at wn wadd
 generalize fP=F at wn wadd
 refine Q7 hT Tryz.func164 rfl rfl Tryz.ntmps164 rfl ?_
 refine z7 hT ?_
 refine w9 ⟨⟨65,[(0,.p (.sl 1 (x9 [a0,a1,a2]))),(1,.p (.sl 1 (x9 B)))]⟩,[]⟩ True (z7 hT ?_) (fun _=>?_)
 ·refine Q0 (Q4 wA _ rfl rfl) ?_
  refine Q0 (Q4 wB _ rfl rfl) ?_
  refine⟨by decide,Z1 rfl ?_⟩
  refine y6 (u7 (fun h=>?_) (fun h=>?_))
  ·have h:((((bx a0).length:Nat):Int) != (((x9 B).length:Nat):Int))=true:=h
   rw[bne_iff_ne]at h
   omega
  exact x6 ⟨z6 [] [0,1] rfl,trivial⟩
 refine z7 hT ?_
 refine Q0 (Q4 wn _ rfl rfl) ?_
 refine Q3 (fun st=>∃ c',c'=c∧st=⟨⟨65,[(0,.p (.sl 1 (x9 [a0,a1,a2]))),(1,.p (.sl 1 (x9 B))),(6,.p (.box F)),(7,.msl 0 1 0 3)]⟩,[.cells y7 [.msl 1 1 0 c',.msl 2 1 0 c',.msl 3 1 0 c'],.row y9 1 (bx (Z4 (fun _ _=>0) c' 0)),.row y9 1 (bx (Z4 (fun _ _=>0) c' 1)),.row y9 1 (bx (Z4 (fun _ _=>0) c' 2))]⟩) (z8 hT ?_) ?_
 ·refine⟨by decide,Z1 hx0 ?_⟩
  refine Q0 wf ?_
  exact⟨_,z6 [0,1,2,3] [0,1,6,7] rfl,_,hb0.trans hc0,rfl⟩
 rintro _ ⟨c,rfl,rfl⟩
 clear wf
 refine w9 ⟨⟨65,[(7,.msl 0 1 0 3)]⟩,[.cells y7 [.msl 1 1 0 c,.msl 2 1 0 c,.msl 3 1 0 c],.row y9 1 (bx (Q5 a0 B c q)),.row y9 1 (bx (Q5 a1 B c q)),.row y9 1 (bx (Q5 a2 B c q))]⟩ True (z7 hT ?_) (fun _=>?_)
 ·refine y8 ?_
  refine Q2 (fun n s=>(n=3∧s=⟨⟨65,[(0,.p (.sl 1 (x9 [a0,a1,a2]))),(1,.p (.sl 1 (x9 B))),(6,.p (.box F)),(7,.msl 0 1 0 3),(37,.p (.sl 1 (x9 [a0,a1,a2]))),(38,i64 3),(39,i64 0)]⟩,[.cells y7 [.msl 1 1 0 c,.msl 2 1 0 c,.msl 3 1 0 c],.row y9 1 (bx (Q5 a0 B c 0)),.row y9 1 (bx (Q5 a1 B c 0)),.row y9 1 (bx (Q5 a2 B c 0))]⟩)∨(n=2∧s=⟨⟨65,[(0,.p (.sl 1 (x9 [a0,a1,a2]))),(1,.p (.sl 1 (x9 B))),(6,.p (.box F)),(7,.msl 0 1 0 3),(37,.p (.sl 1 (x9 [a0,a1,a2]))),(38,i64 3),(39,i64 1)]⟩,[.cells y7 [.msl 1 1 0 c,.msl 2 1 0 c,.msl 3 1 0 c],.row y9 1 (bx (Q5 a0 B c q)),.row y9 1 (bx (Q5 a1 B c 0)),.row y9 1 (bx (Q5 a2 B c 0))]⟩)∨(n=1∧s=⟨⟨65,[(0,.p (.sl 1 (x9 [a0,a1,a2]))),(1,.p (.sl 1 (x9 B))),(6,.p (.box F)),(7,.msl 0 1 0 3),(37,.p (.sl 1 (x9 [a0,a1,a2]))),(38,i64 3),(39,i64 2)]⟩,[.cells y7 [.msl 1 1 0 c,.msl 2 1 0 c,.msl 3 1 0 c],.row y9 1 (bx (Q5 a0 B c q)),.row y9 1 (bx (Q5 a1 B c q)),.row y9 1 (bx (Q5 a2 B c 0))]⟩)∨(n=0∧s=⟨⟨65,[(0,.p (.sl 1 (x9 [a0,a1,a2]))),(1,.p (.sl 1 (x9 B))),(6,.p (.box F)),(7,.msl 0 1 0 3),(37,.p (.sl 1 (x9 [a0,a1,a2]))),(38,i64 3),(39,i64 3)]⟩,[.cells y7 [.msl 1 1 0 c,.msl 2 1 0 c,.msl 3 1 0 c],.row y9 1 (bx (Q5 a0 B c q)),.row y9 1 (bx (Q5 a1 B c q)),.row y9 1 (bx (Q5 a2 B c q))]⟩)) 3 ⟨⟨65,_⟩,_⟩ (z6 [0,1,2,3] [0,1,6,7,37,38,39] rfl) (.inl ⟨rfl,by rw[q4u a0 B c 0,q4u a1 B c 1,q4u a2 B c 2];rfl⟩) ?_
  rintro n s (⟨rfl,rfl⟩|⟨rfl,rfl⟩|⟨rfl,rfl⟩|⟨rfl,rfl⟩)
  ·refine z7 hT ?_
   refine u5 (y6 ?_)
   refine x6 ?_
   refine w9 ⟨⟨65,[(0,.p (.sl 1 (x9 [a0,a1,a2]))),(1,.p (.sl 1 (x9 B))),(6,.p (.box F)),(7,.msl 0 1 0 3),(37,.p (.sl 1 (x9 [a0,a1,a2]))),(38,i64 3),(8,i64 0),(39,i64 0)]⟩,[.cells y7 [.msl 1 1 0 c,.msl 2 1 0 c,.msl 3 1 0 c],.row y9 1 (bx (Q5 a0 B c q)),.row y9 1 (bx (Q5 a1 B c 0)),.row y9 1 (bx (Q5 a2 B c 0))]⟩ True (y8 ?_) (fun _=>?_)
   ·refine z7 hT ?_
    refine⟨by decide,Z1 rfl ?_⟩
    refine z7 hT ?_
    refine y8 ?_
    refine Q2 (fun n s=>∃ (k:Nat) (j:Int),n+k=q∧j=k∧s=⟨⟨65,[(0,.p (.sl 1 (x9 [a0,a1,a2]))),(1,.p (.sl 1 (x9 B))),(6,.p (.box F)),(7,.msl 0 1 0 3),(37,.p (.sl 1 (x9 [a0,a1,a2]))),(38,i64 3),(8,i64 0),(39,i64 0),(44,bA a0),(45,i64 (bx a0).length),(46,i64 j)]⟩,[.cells y7 [.msl 1 1 0 c,.msl 2 1 0 c,.msl 3 1 0 c],.row y9 1 (bx (Q5 a0 B c k)),.row y9 1 (bx (Q5 a1 B c 0)),.row y9 1 (bx (Q5 a2 B c 0))]⟩) q ⟨⟨65,_⟩,_⟩ (z6 [0,1,2,3] [0,1,6,7,37,38,8,39,44,45,46] rfl) ⟨0,0,by omega,rfl,rfl⟩ ?_
    rintro n2 s ⟨k,j,hnk,hj,rfl⟩
    refine z7 hT ?_
    refine u5 (y6 (u7 (fun h=>?_) (fun h=>?_)))
    ·have h:=k0z (show decide (j<(((bx a0).length:Nat):Int))=true from h)
     have hk:k<a0.length:=by omega
     have hkB:k<B.length:=by omega
     refine x6 ?_
     have hxa:=k0w hk
     have hxb:=k0w hkB
     have hst:=U0 c hxa hxb
     have hlb:=hBc _ (k1w hkB)
     generalize a0[k]=x at hxa hst
     generalize B[k]=b at hxb hst hlb
     have hxp:(bx a0)[j.toNat]?=some [u8 x]:=by rw[hj,k0u];exact W4 hxa
     have hbp:(x9 B)[j.toNat]?=some [bP b]:=by rw[hj,k0u];exact Y2 hxb
     have hml:=Y8 (B:=B) a0 hBc (k:=k) (by omega)
     have w:=wadd (Q5 a0 B c k) b x hml hlb
     rw[hml,← hst]at w
     refine w9 ⟨⟨65,[(0,.p (.sl 1 (x9 [a0,a1,a2]))),(1,.p (.sl 1 (x9 B))),(6,.p (.box F)),(7,.msl 0 1 0 3),(37,.p (.sl 1 (x9 [a0,a1,a2]))),(38,i64 3),(8,i64 0),(39,i64 0),(44,bA a0),(45,i64 (bx a0).length),(46,i64 j)]⟩,[.cells y7 [.msl 1 1 0 c,.msl 2 1 0 c,.msl 3 1 0 c],.row y9 1 (bx (Q5 a0 B c (k+1))),.row y9 1 (bx (Q5 a1 B c 0)),.row y9 1 (bx (Q5 a2 B c 0))]⟩ True (y8 (z7 hT ?_)) (fun _=>?_)
     ·refine⟨by omega,Z1 hxp ?_⟩
      refine Q9 [10] [] hT u6 (by rfl) ?_
      refine⟨by decide,?_⟩
      refine⟨by omega,Z1 hbp ?_⟩
      refine⟨_,_,Z7 [1] w rfl rfl rfl,?_⟩
      repeat first|refine⟨rfl,?_⟩|refine⟨⟨by decide,rfl⟩,?_⟩|refine⟨⟨by omega,Z1 hbp rfl⟩,?_⟩
      exact⟨z6 [0,1,2,3] [0,1,6,7,37,38,8,39,44,45,46] rfl,trivial⟩
     ·refine z8 hT ?_
      exact⟨n2 - 1,by omega,_,z6 [0,1,2,3] [0,1,6,7,37,38,8,39,44,45,46] rfl,k+1,IntKind.i64.wrap (j+1),by omega,by rw[Q1 _ (by omega) (by omega)];omega,rfl⟩
    ·have h:=k0y (show decide (j<(((bx a0).length:Nat):Int))=false from h)
     rw[show k=q by omega]
     refine Q6 ?_
     exact⟨z6 [0,1,2,3] [0,1,6,7,37,38,8,39] rfl,trivial⟩
   ·refine z8 hT ?_
    exact⟨2,by decide,_,z6 [0,1,2,3] [0,1,6,7,37,38,39] rfl,(.inr (.inl ⟨rfl,rfl⟩))⟩
  ·refine z7 hT ?_
   refine u5 (y6 ?_)
   refine x6 ?_
   refine w9 ⟨⟨65,[(0,.p (.sl 1 (x9 [a0,a1,a2]))),(1,.p (.sl 1 (x9 B))),(6,.p (.box F)),(7,.msl 0 1 0 3),(37,.p (.sl 1 (x9 [a0,a1,a2]))),(38,i64 3),(8,i64 1),(39,i64 1)]⟩,[.cells y7 [.msl 1 1 0 c,.msl 2 1 0 c,.msl 3 1 0 c],.row y9 1 (bx (Q5 a0 B c q)),.row y9 1 (bx (Q5 a1 B c q)),.row y9 1 (bx (Q5 a2 B c 0))]⟩ True (y8 ?_) (fun _=>?_)
   ·refine z7 hT ?_
    refine⟨by decide,Z1 rfl ?_⟩
    refine z7 hT ?_
    refine y8 ?_
    refine Q2 (fun n s=>∃ (k:Nat) (j:Int),n+k=q∧j=k∧s=⟨⟨65,[(0,.p (.sl 1 (x9 [a0,a1,a2]))),(1,.p (.sl 1 (x9 B))),(6,.p (.box F)),(7,.msl 0 1 0 3),(37,.p (.sl 1 (x9 [a0,a1,a2]))),(38,i64 3),(8,i64 1),(39,i64 1),(44,bA a1),(45,i64 (bx a1).length),(46,i64 j)]⟩,[.cells y7 [.msl 1 1 0 c,.msl 2 1 0 c,.msl 3 1 0 c],.row y9 1 (bx (Q5 a0 B c q)),.row y9 1 (bx (Q5 a1 B c k)),.row y9 1 (bx (Q5 a2 B c 0))]⟩) q ⟨⟨65,_⟩,_⟩ (z6 [0,1,2,3] [0,1,6,7,37,38,8,39,44,45,46] rfl) ⟨0,0,by omega,rfl,rfl⟩ ?_
    rintro n2 s ⟨k,j,hnk,hj,rfl⟩
    refine z7 hT ?_
    refine u5 (y6 (u7 (fun h=>?_) (fun h=>?_)))
    ·have h:=k0z (show decide (j<(((bx a1).length:Nat):Int))=true from h)
     have hk:k<a1.length:=by omega
     have hkB:k<B.length:=by omega
     refine x6 ?_
     have hxa:=k0w hk
     have hxb:=k0w hkB
     have hst:=U0 c hxa hxb
     have hlb:=hBc _ (k1w hkB)
     generalize a1[k]=x at hxa hst
     generalize B[k]=b at hxb hst hlb
     have hxp:(bx a1)[j.toNat]?=some [u8 x]:=by rw[hj,k0u];exact W4 hxa
     have hbp:(x9 B)[j.toNat]?=some [bP b]:=by rw[hj,k0u];exact Y2 hxb
     have hml:=Y8 (B:=B) a1 hBc (k:=k) (by omega)
     have w:=wadd (Q5 a1 B c k) b x hml hlb
     rw[hml,← hst]at w
     refine w9 ⟨⟨65,[(0,.p (.sl 1 (x9 [a0,a1,a2]))),(1,.p (.sl 1 (x9 B))),(6,.p (.box F)),(7,.msl 0 1 0 3),(37,.p (.sl 1 (x9 [a0,a1,a2]))),(38,i64 3),(8,i64 1),(39,i64 1),(44,bA a1),(45,i64 (bx a1).length),(46,i64 j)]⟩,[.cells y7 [.msl 1 1 0 c,.msl 2 1 0 c,.msl 3 1 0 c],.row y9 1 (bx (Q5 a0 B c q)),.row y9 1 (bx (Q5 a1 B c (k+1))),.row y9 1 (bx (Q5 a2 B c 0))]⟩ True (y8 (z7 hT ?_)) (fun _=>?_)
     ·refine⟨by omega,Z1 hxp ?_⟩
      refine Q9 [10] [] hT u6 (by rfl) ?_
      refine⟨by decide,?_⟩
      refine⟨by omega,Z1 hbp ?_⟩
      refine⟨_,_,Z7 [2] w rfl rfl rfl,?_⟩
      repeat first|refine⟨rfl,?_⟩|refine⟨⟨by decide,rfl⟩,?_⟩|refine⟨⟨by omega,Z1 hbp rfl⟩,?_⟩
      exact⟨z6 [0,1,2,3] [0,1,6,7,37,38,8,39,44,45,46] rfl,trivial⟩
     ·refine z8 hT ?_
      exact⟨n2 - 1,by omega,_,z6 [0,1,2,3] [0,1,6,7,37,38,8,39,44,45,46] rfl,k+1,IntKind.i64.wrap (j+1),by omega,by rw[Q1 _ (by omega) (by omega)];omega,rfl⟩
    ·have h:=k0y (show decide (j<(((bx a1).length:Nat):Int))=false from h)
     rw[show k=q by omega]
     refine Q6 ?_
     exact⟨z6 [0,1,2,3] [0,1,6,7,37,38,8,39] rfl,trivial⟩
   ·refine z8 hT ?_
    exact⟨1,by decide,_,z6 [0,1,2,3] [0,1,6,7,37,38,39] rfl,(.inr (.inr (.inl ⟨rfl,rfl⟩)))⟩
  ·refine z7 hT ?_
   refine u5 (y6 ?_)
   refine x6 ?_
   refine w9 ⟨⟨65,[(0,.p (.sl 1 (x9 [a0,a1,a2]))),(1,.p (.sl 1 (x9 B))),(6,.p (.box F)),(7,.msl 0 1 0 3),(37,.p (.sl 1 (x9 [a0,a1,a2]))),(38,i64 3),(8,i64 2),(39,i64 2)]⟩,[.cells y7 [.msl 1 1 0 c,.msl 2 1 0 c,.msl 3 1 0 c],.row y9 1 (bx (Q5 a0 B c q)),.row y9 1 (bx (Q5 a1 B c q)),.row y9 1 (bx (Q5 a2 B c q))]⟩ True (y8 ?_) (fun _=>?_)
   ·refine z7 hT ?_
    refine⟨by decide,Z1 rfl ?_⟩
    refine z7 hT ?_
    refine y8 ?_
    refine Q2 (fun n s=>∃ (k:Nat) (j:Int),n+k=q∧j=k∧s=⟨⟨65,[(0,.p (.sl 1 (x9 [a0,a1,a2]))),(1,.p (.sl 1 (x9 B))),(6,.p (.box F)),(7,.msl 0 1 0 3),(37,.p (.sl 1 (x9 [a0,a1,a2]))),(38,i64 3),(8,i64 2),(39,i64 2),(44,bA a2),(45,i64 (bx a2).length),(46,i64 j)]⟩,[.cells y7 [.msl 1 1 0 c,.msl 2 1 0 c,.msl 3 1 0 c],.row y9 1 (bx (Q5 a0 B c q)),.row y9 1 (bx (Q5 a1 B c q)),.row y9 1 (bx (Q5 a2 B c k))]⟩) q ⟨⟨65,_⟩,_⟩ (z6 [0,1,2,3] [0,1,6,7,37,38,8,39,44,45,46] rfl) ⟨0,0,by omega,rfl,rfl⟩ ?_
    rintro n2 s ⟨k,j,hnk,hj,rfl⟩
    refine z7 hT ?_
    refine u5 (y6 (u7 (fun h=>?_) (fun h=>?_)))
    ·have h:=k0z (show decide (j<(((bx a2).length:Nat):Int))=true from h)
     have hk:k<a2.length:=by omega
     have hkB:k<B.length:=by omega
     refine x6 ?_
     have hxa:=k0w hk
     have hxb:=k0w hkB
     have hst:=U0 c hxa hxb
     have hlb:=hBc _ (k1w hkB)
     generalize a2[k]=x at hxa hst
     generalize B[k]=b at hxb hst hlb
     have hxp:(bx a2)[j.toNat]?=some [u8 x]:=by rw[hj,k0u];exact W4 hxa
     have hbp:(x9 B)[j.toNat]?=some [bP b]:=by rw[hj,k0u];exact Y2 hxb
     have hml:=Y8 (B:=B) a2 hBc (k:=k) (by omega)
     have w:=wadd (Q5 a2 B c k) b x hml hlb
     rw[hml,← hst]at w
     refine w9 ⟨⟨65,[(0,.p (.sl 1 (x9 [a0,a1,a2]))),(1,.p (.sl 1 (x9 B))),(6,.p (.box F)),(7,.msl 0 1 0 3),(37,.p (.sl 1 (x9 [a0,a1,a2]))),(38,i64 3),(8,i64 2),(39,i64 2),(44,bA a2),(45,i64 (bx a2).length),(46,i64 j)]⟩,[.cells y7 [.msl 1 1 0 c,.msl 2 1 0 c,.msl 3 1 0 c],.row y9 1 (bx (Q5 a0 B c q)),.row y9 1 (bx (Q5 a1 B c q)),.row y9 1 (bx (Q5 a2 B c (k+1)))]⟩ True (y8 (z7 hT ?_)) (fun _=>?_)
     ·refine⟨by omega,Z1 hxp ?_⟩
      refine Q9 [10] [] hT u6 (by rfl) ?_
      refine⟨by decide,?_⟩
      refine⟨by omega,Z1 hbp ?_⟩
      refine⟨_,_,Z7 [3] w rfl rfl rfl,?_⟩
      repeat first|refine⟨rfl,?_⟩|refine⟨⟨by decide,rfl⟩,?_⟩|refine⟨⟨by omega,Z1 hbp rfl⟩,?_⟩
      exact⟨z6 [0,1,2,3] [0,1,6,7,37,38,8,39,44,45,46] rfl,trivial⟩
     ·refine z8 hT ?_
      exact⟨n2 - 1,by omega,_,z6 [0,1,2,3] [0,1,6,7,37,38,8,39,44,45,46] rfl,k+1,IntKind.i64.wrap (j+1),by omega,by rw[Q1 _ (by omega) (by omega)];omega,rfl⟩
    ·have h:=k0y (show decide (j<(((bx a2).length:Nat):Int))=false from h)
     rw[show k=q by omega]
     refine Q6 ?_
     exact⟨z6 [0,1,2,3] [0,1,6,7,37,38,8,39] rfl,trivial⟩
   ·refine z8 hT ?_
    exact⟨0,by decide,_,z6 [0,1,2,3] [0,1,6,7,37,38,39] rfl,(.inr (.inr (.inr ⟨rfl,rfl⟩)))⟩
  ·refine z7 hT ?_
   refine u5 (y6 ?_)
   refine Q6 ?_
   exact⟨z6 [0,1,2,3] [7] rfl,trivial⟩
 refine z7 hT ?_
 refine u0 ?_
 exact x7 [0,1,2,3] ⟨rfl,rfl⟩ rfl
theorem v0e (a0 a1 a2:x8)(B:List x8)(q c:Nat)(q1:1≤q)(q2:q≤64)(c1:1≤c)(c2:c≤4096)(hA:∀ s∈([a0,a1,a2]:List x8),s.length=q)(hB:B.length=q)(hBc:∀ s∈B,s.length=c) :
 AF k0q q0q [.p (.sl 1 (x9 [a0,a1,a2])),.p (.sl 1 (x9 B))] [] (Q8 (.tup [.msl 0 1 0 3,i64 0]) [.row y7 1 (x9 [Q5 a0 B c q,Q5 a1 B c q,Q5 a2 B c q])]):=by
 refine y8d (M:=fun i=>([Q5 a0 B c q,Q5 a1 B c q,Q5 a2 B c q]:List x8).getD i []) (n:=c) (fun i hi=>?_) (v0d a0 a1 a2 B q c q1 q2 c1 c2 hA hB hBc)
 have:i=0∨i=1∨i=2:=by omega
 rcases this with rfl|rfl|rfl <;> exact Y8 _ hBc (by omega)
theorem v0f (a0 a1 a2 a3:x8)(B:List x8)(q c:Nat)(q1:1≤q)(q2:q≤64)(c1:1≤c)(c2:c≤4096)(hA:∀ s∈([a0,a1,a2,a3]:List x8),s.length=q)(hB:B.length=q)(hBc:∀ s∈B,s.length=c) :
 AF k0q q0q [.p (.sl 1 (x9 [a0,a1,a2,a3])),.p (.sl 1 (x9 B))] [] (Q8 (.tup [.msl 0 1 0 4,i64 0]) [.cells y7 [.msl 1 1 0 c,.msl 2 1 0 c,.msl 3 1 0 c,.msl 4 1 0 c],.row y9 1 (bx (Q5 a0 B c q)),.row y9 1 (bx (Q5 a1 B c q)),.row y9 1 (bx (Q5 a2 B c q)),.row y9 1 (bx (Q5 a3 B c q))]):=by
 have wA:=q0g [a0,a1,a2,a3] q (show 1≤4 by decide) (show 4≤64 by decide) q1 (by omega) hA
 have wB:=q0g B c (by omega) (by omega) c1 c2 hBc
 have wn:=q4p
 have hcl:=Y5 B
 have h0:=k0w (show 0<B.length by omega)
 have hc0:=hBc _ (k1w (show 0<B.length by omega))
 generalize B[0]=b0 at h0 hc0
 have hx0:(x9 B)[(0:Int).toNat]?=some [bP b0]:=Y2 h0
 have hb0:=Z0 b0
 have wf:=z4n q1j (bx b0).length (by omega) (fun _ _=>0) (fun i k _ _=>q4t i k)
 have ha0:a0.length=q:=hA a0 (by simp)
 have hx10:=Z0 a0
 have ha1:a1.length=q:=hA a1 (by simp)
 have hx11:=Z0 a1
 have ha2:a2.length=q:=hA a2 (by simp)
 have hx12:=Z0 a2
 have ha3:a3.length=q:=hA a3 (by simp)
 have hx13:=Z0 a3
 have wadd:=fun(to row:x8) (x:UInt8) (ht:to.length=c) (hr:row.length=c)=>q7c to row x (by omega) (by omega)
 unfold q3w at wn wadd
 generalize fP=F at wn wadd
 refine Q7 hT Tryz.func164 rfl rfl Tryz.ntmps164 rfl ?_
 refine z7 hT ?_
 refine w9 ⟨⟨65,[(0,.p (.sl 1 (x9 [a0,a1,a2,a3]))),(1,.p (.sl 1 (x9 B)))]⟩,[]⟩ True (z7 hT ?_) (fun _=>?_)
 ·refine Q0 (Q4 wA _ rfl rfl) ?_
  refine Q0 (Q4 wB _ rfl rfl) ?_
  refine⟨by decide,Z1 rfl ?_⟩
  refine y6 (u7 (fun h=>?_) (fun h=>?_))
  ·have h:((((bx a0).length:Nat):Int) != (((x9 B).length:Nat):Int))=true:=h
   rw[bne_iff_ne]at h
   omega
  exact x6 ⟨z6 [] [0,1] rfl,trivial⟩
 refine z7 hT ?_
 refine Q0 (Q4 wn _ rfl rfl) ?_
 refine Q3 (fun st=>∃ c',c'=c∧st=⟨⟨65,[(0,.p (.sl 1 (x9 [a0,a1,a2,a3]))),(1,.p (.sl 1 (x9 B))),(6,.p (.box F)),(7,.msl 0 1 0 4)]⟩,[.cells y7 [.msl 1 1 0 c',.msl 2 1 0 c',.msl 3 1 0 c',.msl 4 1 0 c'],.row y9 1 (bx (Z4 (fun _ _=>0) c' 0)),.row y9 1 (bx (Z4 (fun _ _=>0) c' 1)),.row y9 1 (bx (Z4 (fun _ _=>0) c' 2)),.row y9 1 (bx (Z4 (fun _ _=>0) c' 3))]⟩) (z8 hT ?_) ?_
 ·refine⟨by decide,Z1 hx0 ?_⟩
  refine Q0 wf ?_
  exact⟨_,z6 [0,1,2,3,4] [0,1,6,7] rfl,_,hb0.trans hc0,rfl⟩
 rintro _ ⟨c,rfl,rfl⟩
 clear wf
 refine w9 ⟨⟨65,[(7,.msl 0 1 0 4)]⟩,[.cells y7 [.msl 1 1 0 c,.msl 2 1 0 c,.msl 3 1 0 c,.msl 4 1 0 c],.row y9 1 (bx (Q5 a0 B c q)),.row y9 1 (bx (Q5 a1 B c q)),.row y9 1 (bx (Q5 a2 B c q)),.row y9 1 (bx (Q5 a3 B c q))]⟩ True (z7 hT ?_) (fun _=>?_)
 ·refine y8 ?_
  refine Q2 (fun n s=>(n=4∧s=⟨⟨65,[(0,.p (.sl 1 (x9 [a0,a1,a2,a3]))),(1,.p (.sl 1 (x9 B))),(6,.p (.box F)),(7,.msl 0 1 0 4),(37,.p (.sl 1 (x9 [a0,a1,a2,a3]))),(38,i64 4),(39,i64 0)]⟩,[.cells y7 [.msl 1 1 0 c,.msl 2 1 0 c,.msl 3 1 0 c,.msl 4 1 0 c],.row y9 1 (bx (Q5 a0 B c 0)),.row y9 1 (bx (Q5 a1 B c 0)),.row y9 1 (bx (Q5 a2 B c 0)),.row y9 1 (bx (Q5 a3 B c 0))]⟩)∨(n=3∧s=⟨⟨65,[(0,.p (.sl 1 (x9 [a0,a1,a2,a3]))),(1,.p (.sl 1 (x9 B))),(6,.p (.box F)),(7,.msl 0 1 0 4),(37,.p (.sl 1 (x9 [a0,a1,a2,a3]))),(38,i64 4),(39,i64 1)]⟩,[.cells y7 [.msl 1 1 0 c,.msl 2 1 0 c,.msl 3 1 0 c,.msl 4 1 0 c],.row y9 1 (bx (Q5 a0 B c q)),.row y9 1 (bx (Q5 a1 B c 0)),.row y9 1 (bx (Q5 a2 B c 0)),.row y9 1 (bx (Q5 a3 B c 0))]⟩)∨(n=2∧s=⟨⟨65,[(0,.p (.sl 1 (x9 [a0,a1,a2,a3]))),(1,.p (.sl 1 (x9 B))),(6,.p (.box F)),(7,.msl 0 1 0 4),(37,.p (.sl 1 (x9 [a0,a1,a2,a3]))),(38,i64 4),(39,i64 2)]⟩,[.cells y7 [.msl 1 1 0 c,.msl 2 1 0 c,.msl 3 1 0 c,.msl 4 1 0 c],.row y9 1 (bx (Q5 a0 B c q)),.row y9 1 (bx (Q5 a1 B c q)),.row y9 1 (bx (Q5 a2 B c 0)),.row y9 1 (bx (Q5 a3 B c 0))]⟩)∨(n=1∧s=⟨⟨65,[(0,.p (.sl 1 (x9 [a0,a1,a2,a3]))),(1,.p (.sl 1 (x9 B))),(6,.p (.box F)),(7,.msl 0 1 0 4),(37,.p (.sl 1 (x9 [a0,a1,a2,a3]))),(38,i64 4),(39,i64 3)]⟩,[.cells y7 [.msl 1 1 0 c,.msl 2 1 0 c,.msl 3 1 0 c,.msl 4 1 0 c],.row y9 1 (bx (Q5 a0 B c q)),.row y9 1 (bx (Q5 a1 B c q)),.row y9 1 (bx (Q5 a2 B c q)),.row y9 1 (bx (Q5 a3 B c 0))]⟩)∨(n=0∧s=⟨⟨65,[(0,.p (.sl 1 (x9 [a0,a1,a2,a3]))),(1,.p (.sl 1 (x9 B))),(6,.p (.box F)),(7,.msl 0 1 0 4),(37,.p (.sl 1 (x9 [a0,a1,a2,a3]))),(38,i64 4),(39,i64 4)]⟩,[.cells y7 [.msl 1 1 0 c,.msl 2 1 0 c,.msl 3 1 0 c,.msl 4 1 0 c],.row y9 1 (bx (Q5 a0 B c q)),.row y9 1 (bx (Q5 a1 B c q)),.row y9 1 (bx (Q5 a2 B c q)),.row y9 1 (bx (Q5 a3 B c q))]⟩)) 4 ⟨⟨65,_⟩,_⟩ (z6 [0,1,2,3,4] [0,1,6,7,37,38,39] rfl) (.inl ⟨rfl,by rw[q4u a0 B c 0,q4u a1 B c 1,q4u a2 B c 2,q4u a3 B c 3];rfl⟩) ?_
  rintro n s (⟨rfl,rfl⟩|⟨rfl,rfl⟩|⟨rfl,rfl⟩|⟨rfl,rfl⟩|⟨rfl,rfl⟩)
  ·refine z7 hT ?_
   refine u5 (y6 ?_)
   refine x6 ?_
   refine w9 ⟨⟨65,[(0,.p (.sl 1 (x9 [a0,a1,a2,a3]))),(1,.p (.sl 1 (x9 B))),(6,.p (.box F)),(7,.msl 0 1 0 4),(37,.p (.sl 1 (x9 [a0,a1,a2,a3]))),(38,i64 4),(8,i64 0),(39,i64 0)]⟩,[.cells y7 [.msl 1 1 0 c,.msl 2 1 0 c,.msl 3 1 0 c,.msl 4 1 0 c],.row y9 1 (bx (Q5 a0 B c q)),.row y9 1 (bx (Q5 a1 B c 0)),.row y9 1 (bx (Q5 a2 B c 0)),.row y9 1 (bx (Q5 a3 B c 0))]⟩ True (y8 ?_) (fun _=>?_)
   ·refine z7 hT ?_
    refine⟨by decide,Z1 rfl ?_⟩
    refine z7 hT ?_
    refine y8 ?_
    refine Q2 (fun n s=>∃ (k:Nat) (j:Int),n+k=q∧j=k∧s=⟨⟨65,[(0,.p (.sl 1 (x9 [a0,a1,a2,a3]))),(1,.p (.sl 1 (x9 B))),(6,.p (.box F)),(7,.msl 0 1 0 4),(37,.p (.sl 1 (x9 [a0,a1,a2,a3]))),(38,i64 4),(8,i64 0),(39,i64 0),(44,bA a0),(45,i64 (bx a0).length),(46,i64 j)]⟩,[.cells y7 [.msl 1 1 0 c,.msl 2 1 0 c,.msl 3 1 0 c,.msl 4 1 0 c],.row y9 1 (bx (Q5 a0 B c k)),.row y9 1 (bx (Q5 a1 B c 0)),.row y9 1 (bx (Q5 a2 B c 0)),.row y9 1 (bx (Q5 a3 B c 0))]⟩) q ⟨⟨65,_⟩,_⟩ (z6 [0,1,2,3,4] [0,1,6,7,37,38,8,39,44,45,46] rfl) ⟨0,0,by omega,rfl,rfl⟩ ?_
    rintro n2 s ⟨k,j,hnk,hj,rfl⟩
    refine z7 hT ?_
    refine u5 (y6 (u7 (fun h=>?_) (fun h=>?_)))
    ·have h:=k0z (show decide (j<(((bx a0).length:Nat):Int))=true from h)
     have hk:k<a0.length:=by omega
     have hkB:k<B.length:=by omega
     refine x6 ?_
     have hxa:=k0w hk
     have hxb:=k0w hkB
     have hst:=U0 c hxa hxb
     have hlb:=hBc _ (k1w hkB)
     generalize a0[k]=x at hxa hst
     generalize B[k]=b at hxb hst hlb
     have hxp:(bx a0)[j.toNat]?=some [u8 x]:=by rw[hj,k0u];exact W4 hxa
     have hbp:(x9 B)[j.toNat]?=some [bP b]:=by rw[hj,k0u];exact Y2 hxb
     have hml:=Y8 (B:=B) a0 hBc (k:=k) (by omega)
     have w:=wadd (Q5 a0 B c k) b x hml hlb
     rw[hml,← hst]at w
     refine w9 ⟨⟨65,[(0,.p (.sl 1 (x9 [a0,a1,a2,a3]))),(1,.p (.sl 1 (x9 B))),(6,.p (.box F)),(7,.msl 0 1 0 4),(37,.p (.sl 1 (x9 [a0,a1,a2,a3]))),(38,i64 4),(8,i64 0),(39,i64 0),(44,bA a0),(45,i64 (bx a0).length),(46,i64 j)]⟩,[.cells y7 [.msl 1 1 0 c,.msl 2 1 0 c,.msl 3 1 0 c,.msl 4 1 0 c],.row y9 1 (bx (Q5 a0 B c (k+1))),.row y9 1 (bx (Q5 a1 B c 0)),.row y9 1 (bx (Q5 a2 B c 0)),.row y9 1 (bx (Q5 a3 B c 0))]⟩ True (y8 (z7 hT ?_)) (fun _=>?_)
     ·refine⟨by omega,Z1 hxp ?_⟩
      refine Q9 [10] [] hT u6 (by rfl) ?_
      refine⟨by decide,?_⟩
      refine⟨by omega,Z1 hbp ?_⟩
      refine⟨_,_,Z7 [1] w rfl rfl rfl,?_⟩
      repeat first|refine⟨rfl,?_⟩|refine⟨⟨by decide,rfl⟩,?_⟩|refine⟨⟨by omega,Z1 hbp rfl⟩,?_⟩
      exact⟨z6 [0,1,2,3,4] [0,1,6,7,37,38,8,39,44,45,46] rfl,trivial⟩
     ·refine z8 hT ?_
      exact⟨n2 - 1,by omega,_,z6 [0,1,2,3,4] [0,1,6,7,37,38,8,39,44,45,46] rfl,k+1,IntKind.i64.wrap (j+1),by omega,by rw[Q1 _ (by omega) (by omega)];omega,rfl⟩
    ·have h:=k0y (show decide (j<(((bx a0).length:Nat):Int))=false from h)
     rw[show k=q by omega]
     refine Q6 ?_
     exact⟨z6 [0,1,2,3,4] [0,1,6,7,37,38,8,39] rfl,trivial⟩
   ·refine z8 hT ?_
    exact⟨3,by decide,_,z6 [0,1,2,3,4] [0,1,6,7,37,38,39] rfl,(.inr (.inl ⟨rfl,rfl⟩))⟩
  ·refine z7 hT ?_
   refine u5 (y6 ?_)
   refine x6 ?_
   refine w9 ⟨⟨65,[(0,.p (.sl 1 (x9 [a0,a1,a2,a3]))),(1,.p (.sl 1 (x9 B))),(6,.p (.box F)),(7,.msl 0 1 0 4),(37,.p (.sl 1 (x9 [a0,a1,a2,a3]))),(38,i64 4),(8,i64 1),(39,i64 1)]⟩,[.cells y7 [.msl 1 1 0 c,.msl 2 1 0 c,.msl 3 1 0 c,.msl 4 1 0 c],.row y9 1 (bx (Q5 a0 B c q)),.row y9 1 (bx (Q5 a1 B c q)),.row y9 1 (bx (Q5 a2 B c 0)),.row y9 1 (bx (Q5 a3 B c 0))]⟩ True (y8 ?_) (fun _=>?_)
   ·refine z7 hT ?_
    refine⟨by decide,Z1 rfl ?_⟩
    refine z7 hT ?_
    refine y8 ?_
    refine Q2 (fun n s=>∃ (k:Nat) (j:Int),n+k=q∧j=k∧s=⟨⟨65,[(0,.p (.sl 1 (x9 [a0,a1,a2,a3]))),(1,.p (.sl 1 (x9 B))),(6,.p (.box F)),(7,.msl 0 1 0 4),(37,.p (.sl 1 (x9 [a0,a1,a2,a3]))),(38,i64 4),(8,i64 1),(39,i64 1),(44,bA a1),(45,i64 (bx a1).length),(46,i64 j)]⟩,[.cells y7 [.msl 1 1 0 c,.msl 2 1 0 c,.msl 3 1 0 c,.msl 4 1 0 c],.row y9 1 (bx (Q5 a0 B c q)),.row y9 1 (bx (Q5 a1 B c k)),.row y9 1 (bx (Q5 a2 B c 0)),.row y9 1 (bx (Q5 a3 B c 0))]⟩) q ⟨⟨65,_⟩,_⟩ (z6 [0,1,2,3,4] [0,1,6,7,37,38,8,39,44,45,46] rfl) ⟨0,0,by omega,rfl,rfl⟩ ?_
    rintro n2 s ⟨k,j,hnk,hj,rfl⟩
    refine z7 hT ?_
    refine u5 (y6 (u7 (fun h=>?_) (fun h=>?_)))
    ·have h:=k0z (show decide (j<(((bx a1).length:Nat):Int))=true from h)
     have hk:k<a1.length:=by omega
     have hkB:k<B.length:=by omega
     refine x6 ?_
     have hxa:=k0w hk
     have hxb:=k0w hkB
     have hst:=U0 c hxa hxb
     have hlb:=hBc _ (k1w hkB)
     generalize a1[k]=x at hxa hst
     generalize B[k]=b at hxb hst hlb
     have hxp:(bx a1)[j.toNat]?=some [u8 x]:=by rw[hj,k0u];exact W4 hxa
     have hbp:(x9 B)[j.toNat]?=some [bP b]:=by rw[hj,k0u];exact Y2 hxb
     have hml:=Y8 (B:=B) a1 hBc (k:=k) (by omega)
     have w:=wadd (Q5 a1 B c k) b x hml hlb
     rw[hml,← hst]at w
     refine w9 ⟨⟨65,[(0,.p (.sl 1 (x9 [a0,a1,a2,a3]))),(1,.p (.sl 1 (x9 B))),(6,.p (.box F)),(7,.msl 0 1 0 4),(37,.p (.sl 1 (x9 [a0,a1,a2,a3]))),(38,i64 4),(8,i64 1),(39,i64 1),(44,bA a1),(45,i64 (bx a1).length),(46,i64 j)]⟩,[.cells y7 [.msl 1 1 0 c,.msl 2 1 0 c,.msl 3 1 0 c,.msl 4 1 0 c],.row y9 1 (bx (Q5 a0 B c q)),.row y9 1 (bx (Q5 a1 B c (k+1))),.row y9 1 (bx (Q5 a2 B c 0)),.row y9 1 (bx (Q5 a3 B c 0))]⟩ True (y8 (z7 hT ?_)) (fun _=>?_)
     ·refine⟨by omega,Z1 hxp ?_⟩
      refine Q9 [10] [] hT u6 (by rfl) ?_
      refine⟨by decide,?_⟩
      refine⟨by omega,Z1 hbp ?_⟩
      refine⟨_,_,Z7 [2] w rfl rfl rfl,?_⟩
      repeat first|refine⟨rfl,?_⟩|refine⟨⟨by decide,rfl⟩,?_⟩|refine⟨⟨by omega,Z1 hbp rfl⟩,?_⟩
      exact⟨z6 [0,1,2,3,4] [0,1,6,7,37,38,8,39,44,45,46] rfl,trivial⟩
     ·refine z8 hT ?_
      exact⟨n2 - 1,by omega,_,z6 [0,1,2,3,4] [0,1,6,7,37,38,8,39,44,45,46] rfl,k+1,IntKind.i64.wrap (j+1),by omega,by rw[Q1 _ (by omega) (by omega)];omega,rfl⟩
    ·have h:=k0y (show decide (j<(((bx a1).length:Nat):Int))=false from h)
     rw[show k=q by omega]
     refine Q6 ?_
     exact⟨z6 [0,1,2,3,4] [0,1,6,7,37,38,8,39] rfl,trivial⟩
   ·refine z8 hT ?_
    exact⟨2,by decide,_,z6 [0,1,2,3,4] [0,1,6,7,37,38,39] rfl,(.inr (.inr (.inl ⟨rfl,rfl⟩)))⟩
  ·refine z7 hT ?_
   refine u5 (y6 ?_)
   refine x6 ?_
   refine w9 ⟨⟨65,[(0,.p (.sl 1 (x9 [a0,a1,a2,a3]))),(1,.p (.sl 1 (x9 B))),(6,.p (.box F)),(7,.msl 0 1 0 4),(37,.p (.sl 1 (x9 [a0,a1,a2,a3]))),(38,i64 4),(8,i64 2),(39,i64 2)]⟩,[.cells y7 [.msl 1 1 0 c,.msl 2 1 0 c,.msl 3 1 0 c,.msl 4 1 0 c],.row y9 1 (bx (Q5 a0 B c q)),.row y9 1 (bx (Q5 a1 B c q)),.row y9 1 (bx (Q5 a2 B c q)),.row y9 1 (bx (Q5 a3 B c 0))]⟩ True (y8 ?_) (fun _=>?_)
   ·refine z7 hT ?_
    refine⟨by decide,Z1 rfl ?_⟩
    refine z7 hT ?_
    refine y8 ?_
    refine Q2 (fun n s=>∃ (k:Nat) (j:Int),n+k=q∧j=k∧s=⟨⟨65,[(0,.p (.sl 1 (x9 [a0,a1,a2,a3]))),(1,.p (.sl 1 (x9 B))),(6,.p (.box F)),(7,.msl 0 1 0 4),(37,.p (.sl 1 (x9 [a0,a1,a2,a3]))),(38,i64 4),(8,i64 2),(39,i64 2),(44,bA a2),(45,i64 (bx a2).length),(46,i64 j)]⟩,[.cells y7 [.msl 1 1 0 c,.msl 2 1 0 c,.msl 3 1 0 c,.msl 4 1 0 c],.row y9 1 (bx (Q5 a0 B c q)),.row y9 1 (bx (Q5 a1 B c q)),.row y9 1 (bx (Q5 a2 B c k)),.row y9 1 (bx (Q5 a3 B c 0))]⟩) q ⟨⟨65,_⟩,_⟩ (z6 [0,1,2,3,4] [0,1,6,7,37,38,8,39,44,45,46] rfl) ⟨0,0,by omega,rfl,rfl⟩ ?_
    rintro n2 s ⟨k,j,hnk,hj,rfl⟩
    refine z7 hT ?_
    refine u5 (y6 (u7 (fun h=>?_) (fun h=>?_)))
    ·have h:=k0z (show decide (j<(((bx a2).length:Nat):Int))=true from h)
     have hk:k<a2.length:=by omega
     have hkB:k<B.length:=by omega
     refine x6 ?_
     have hxa:=k0w hk
     have hxb:=k0w hkB
     have hst:=U0 c hxa hxb
     have hlb:=hBc _ (k1w hkB)
     generalize a2[k]=x at hxa hst
     generalize B[k]=b at hxb hst hlb
     have hxp:(bx a2)[j.toNat]?=some [u8 x]:=by rw[hj,k0u];exact W4 hxa
     have hbp:(x9 B)[j.toNat]?=some [bP b]:=by rw[hj,k0u];exact Y2 hxb
     have hml:=Y8 (B:=B) a2 hBc (k:=k) (by omega)
     have w:=wadd (Q5 a2 B c k) b x hml hlb
     rw[hml,← hst]at w
     refine w9 ⟨⟨65,[(0,.p (.sl 1 (x9 [a0,a1,a2,a3]))),(1,.p (.sl 1 (x9 B))),(6,.p (.box F)),(7,.msl 0 1 0 4),(37,.p (.sl 1 (x9 [a0,a1,a2,a3]))),(38,i64 4),(8,i64 2),(39,i64 2),(44,bA a2),(45,i64 (bx a2).length),(46,i64 j)]⟩,[.cells y7 [.msl 1 1 0 c,.msl 2 1 0 c,.msl 3 1 0 c,.msl 4 1 0 c],.row y9 1 (bx (Q5 a0 B c q)),.row y9 1 (bx (Q5 a1 B c q)),.row y9 1 (bx (Q5 a2 B c (k+1))),.row y9 1 (bx (Q5 a3 B c 0))]⟩ True (y8 (z7 hT ?_)) (fun _=>?_)
     ·refine⟨by omega,Z1 hxp ?_⟩
      refine Q9 [10] [] hT u6 (by rfl) ?_
      refine⟨by decide,?_⟩
      refine⟨by omega,Z1 hbp ?_⟩
      refine⟨_,_,Z7 [3] w rfl rfl rfl,?_⟩
      repeat first|refine⟨rfl,?_⟩|refine⟨⟨by decide,rfl⟩,?_⟩|refine⟨⟨by omega,Z1 hbp rfl⟩,?_⟩
      exact⟨z6 [0,1,2,3,4] [0,1,6,7,37,38,8,39,44,45,46] rfl,trivial⟩
     ·refine z8 hT ?_
      exact⟨n2 - 1,by omega,_,z6 [0,1,2,3,4] [0,1,6,7,37,38,8,39,44,45,46] rfl,k+1,IntKind.i64.wrap (j+1),by omega,by rw[Q1 _ (by omega) (by omega)];omega,rfl⟩
    ·have h:=k0y (show decide (j<(((bx a2).length:Nat):Int))=false from h)
     rw[show k=q by omega]
     refine Q6 ?_
     exact⟨z6 [0,1,2,3,4] [0,1,6,7,37,38,8,39] rfl,trivial⟩
   ·refine z8 hT ?_
    exact⟨1,by decide,_,z6 [0,1,2,3,4] [0,1,6,7,37,38,39] rfl,(.inr (.inr (.inr (.inl ⟨rfl,rfl⟩))))⟩
  ·refine z7 hT ?_
   refine u5 (y6 ?_)
   refine x6 ?_
   refine w9 ⟨⟨65,[(0,.p (.sl 1 (x9 [a0,a1,a2,a3]))),(1,.p (.sl 1 (x9 B))),(6,.p (.box F)),(7,.msl 0 1 0 4),(37,.p (.sl 1 (x9 [a0,a1,a2,a3]))),(38,i64 4),(8,i64 3),(39,i64 3)]⟩,[.cells y7 [.msl 1 1 0 c,.msl 2 1 0 c,.msl 3 1 0 c,.msl 4 1 0 c],.row y9 1 (bx (Q5 a0 B c q)),.row y9 1 (bx (Q5 a1 B c q)),.row y9 1 (bx (Q5 a2 B c q)),.row y9 1 (bx (Q5 a3 B c q))]⟩ True (y8 ?_) (fun _=>?_)
   ·refine z7 hT ?_
    refine⟨by decide,Z1 rfl ?_⟩
    refine z7 hT ?_
    refine y8 ?_
    refine Q2 (fun n s=>∃ (k:Nat) (j:Int),n+k=q∧j=k∧s=⟨⟨65,[(0,.p (.sl 1 (x9 [a0,a1,a2,a3]))),(1,.p (.sl 1 (x9 B))),(6,.p (.box F)),(7,.msl 0 1 0 4),(37,.p (.sl 1 (x9 [a0,a1,a2,a3]))),(38,i64 4),(8,i64 3),(39,i64 3),(44,bA a3),(45,i64 (bx a3).length),(46,i64 j)]⟩,[.cells y7 [.msl 1 1 0 c,.msl 2 1 0 c,.msl 3 1 0 c,.msl 4 1 0 c],.row y9 1 (bx (Q5 a0 B c q)),.row y9 1 (bx (Q5 a1 B c q)),.row y9 1 (bx (Q5 a2 B c q)),.row y9 1 (bx (Q5 a3 B c k))]⟩) q ⟨⟨65,_⟩,_⟩ (z6 [0,1,2,3,4] [0,1,6,7,37,38,8,39,44,45,46] rfl) ⟨0,0,by omega,rfl,rfl⟩ ?_
    rintro n2 s ⟨k,j,hnk,hj,rfl⟩
    refine z7 hT ?_
    refine u5 (y6 (u7 (fun h=>?_) (fun h=>?_)))
    ·have h:=k0z (show decide (j<(((bx a3).length:Nat):Int))=true from h)
     have hk:k<a3.length:=by omega
     have hkB:k<B.length:=by omega
     refine x6 ?_
     have hxa:=k0w hk
     have hxb:=k0w hkB
     have hst:=U0 c hxa hxb
     have hlb:=hBc _ (k1w hkB)
     generalize a3[k]=x at hxa hst
     generalize B[k]=b at hxb hst hlb
     have hxp:(bx a3)[j.toNat]?=some [u8 x]:=by rw[hj,k0u];exact W4 hxa
     have hbp:(x9 B)[j.toNat]?=some [bP b]:=by rw[hj,k0u];exact Y2 hxb
     have hml:=Y8 (B:=B) a3 hBc (k:=k) (by omega)
     have w:=wadd (Q5 a3 B c k) b x hml hlb
     rw[hml,← hst]at w
     refine w9 ⟨⟨65,[(0,.p (.sl 1 (x9 [a0,a1,a2,a3]))),(1,.p (.sl 1 (x9 B))),(6,.p (.box F)),(7,.msl 0 1 0 4),(37,.p (.sl 1 (x9 [a0,a1,a2,a3]))),(38,i64 4),(8,i64 3),(39,i64 3),(44,bA a3),(45,i64 (bx a3).length),(46,i64 j)]⟩,[.cells y7 [.msl 1 1 0 c,.msl 2 1 0 c,.msl 3 1 0 c,.msl 4 1 0 c],.row y9 1 (bx (Q5 a0 B c q)),.row y9 1 (bx (Q5 a1 B c q)),.row y9 1 (bx (Q5 a2 B c q)),.row y9 1 (bx (Q5 a3 B c (k+1)))]⟩ True (y8 (z7 hT ?_)) (fun _=>?_)
     ·refine⟨by omega,Z1 hxp ?_⟩
      refine Q9 [10] [] hT u6 (by rfl) ?_
      refine⟨by decide,?_⟩
      refine⟨by omega,Z1 hbp ?_⟩
      refine⟨_,_,Z7 [4] w rfl rfl rfl,?_⟩
      repeat first|refine⟨rfl,?_⟩|refine⟨⟨by decide,rfl⟩,?_⟩|refine⟨⟨by omega,Z1 hbp rfl⟩,?_⟩
      exact⟨z6 [0,1,2,3,4] [0,1,6,7,37,38,8,39,44,45,46] rfl,trivial⟩
     ·refine z8 hT ?_
      exact⟨n2 - 1,by omega,_,z6 [0,1,2,3,4] [0,1,6,7,37,38,8,39,44,45,46] rfl,k+1,IntKind.i64.wrap (j+1),by omega,by rw[Q1 _ (by omega) (by omega)];omega,rfl⟩
    ·have h:=k0y (show decide (j<(((bx a3).length:Nat):Int))=false from h)
     rw[show k=q by omega]
     refine Q6 ?_
     exact⟨z6 [0,1,2,3,4] [0,1,6,7,37,38,8,39] rfl,trivial⟩
   ·refine z8 hT ?_
    exact⟨0,by decide,_,z6 [0,1,2,3,4] [0,1,6,7,37,38,39] rfl,(.inr (.inr (.inr (.inr ⟨rfl,rfl⟩))))⟩
  ·refine z7 hT ?_
   refine u5 (y6 ?_)
   refine Q6 ?_
   exact⟨z6 [0,1,2,3,4] [7] rfl,trivial⟩
 refine z7 hT ?_
 refine u0 ?_
 exact x7 [0,1,2,3,4] ⟨rfl,rfl⟩ rfl
theorem v0g (a0 a1 a2 a3:x8)(B:List x8)(q c:Nat)(q1:1≤q)(q2:q≤64)(c1:1≤c)(c2:c≤4096)(hA:∀ s∈([a0,a1,a2,a3]:List x8),s.length=q)(hB:B.length=q)(hBc:∀ s∈B,s.length=c) :
 AF k0q q0q [.p (.sl 1 (x9 [a0,a1,a2,a3])),.p (.sl 1 (x9 B))] [] (Q8 (.tup [.msl 0 1 0 4,i64 0]) [.row y7 1 (x9 [Q5 a0 B c q,Q5 a1 B c q,Q5 a2 B c q,Q5 a3 B c q])]):=by
 refine y8e (M:=fun i=>([Q5 a0 B c q,Q5 a1 B c q,Q5 a2 B c q,Q5 a3 B c q]:List x8).getD i []) (n:=c) (fun i hi=>?_) (v0f a0 a1 a2 a3 B q c q1 q2 c1 c2 hA hB hBc)
 have:i=0∨i=1∨i=2∨i=3:=by omega
 rcases this with rfl|rfl|rfl|rfl <;> exact Y8 _ hBc (by omega)
abbrev U1:Type:=Nat→x8
def swp (M:U1)(c p:Nat):U1:=fun i=>match Nat.beq i c with
 |true=>M p
 |false=>match Nat.beq i p with|true=>M c|false=>M i
def q2s (M:U1)(c:Nat)(v:x8):U1:=fun i=>match Nat.beq i c with|true=>v|false=>M i
def q8n (M:U1)(c:Nat):Nat→Nat→Int
 |0,_=>-1
 |n+1,i=>match (M i).getD c 0 != 0 with|true=>i|false=>q8n M c n (i+1)
def q2f (M:U1)(r c:Nat):Int:=q8n M c (r - c) c
def q1u (c k:Nat)(G:U1 × U1):U1 × U1:=match !Nat.beq k c&&(G.1 k).getD c 0 != 0 with
 |true=>(q2s G.1 k (q2e (G.1 k) (G.1 c) ((G.1 k).getD c 0)),q2s G.2 k (q2e (G.2 k) (G.2 c) ((G.1 k).getD c 0)))
 |false=>G
def elS (c:Nat)(G:U1 × U1):Nat→U1 × U1
 |0=>G
 |k+1=>q1u c k (elS c G k)
def z0b (r c:Nat)(G:U1 × U1):U1 × U1:=(swp G.1 c (q2f G.1 r c).toNat,swp G.2 c (q2f G.1 r c).toNat)
def z5w (c:Nat)(G:U1 × U1):U1 × U1:=(q2s G.1 c (q1t (Gf.inv ((G.1 c).getD c 0)) (G.1 c)),q2s G.2 c (q1t (Gf.inv ((G.1 c).getD c 0)) (G.2 c)))
def q3j (r c:Nat)(G:U1 × U1):U1 × U1:=elS c (z5w c (z0b r c G)) r
def gs0 (r:Nat)(L:List x8):U1 × U1:=(fun i=>L.getD i [],Z4 idA r)
def gs (r:Nat)(L:List x8):Nat→U1 × U1
 |0=>gs0 r L
 |c+1=>q3j r c (gs r L c)
def y2s (r:Nat)(L:List x8):Bool:=(List.range r).all fun c=>decide (0≤q2f (gs r L c).1 r c)
def U9 (r:Nat)(M:U1):Prop:=∀ i,i<r→(M i).length=r
theorem q2x {r:Nat}{M:U1}(h:U9 r M){c p:Nat}(hc:c<r)(hp:p<r):U9 r (swp M c p):=fun i hi=>by
 unfold swp
 split
 ·exact h p hp
 ·split
  ·exact h c hc
  ·exact h i hi
theorem q1q {r:Nat}{M:U1}(h:U9 r M)(c:Nat){v:x8}(hv:v.length=r):U9 r (q2s M c v):=fun i hi=>by
 unfold q2s
 split
 ·exact hv
 ·exact h i hi
theorem q0x (x:UInt8)(t:x8):(q1t x t).length=t.length:=k1x _
theorem w4d {r c k:Nat}(hc:c<r)(hk:k<r){G:U1 × U1}(h1:U9 r G.1)(h2:U9 r G.2):U9 r (q1u c k G).1∧U9 r (q1u c k G).2:=by
 unfold q1u
 split
 ·exact⟨q1q h1 k (by rw[q8m _ (by rw[h1 k hk,h1 c hc]),h1 k hk]),q1q h2 k (by rw[q8m _ (by rw[h2 k hk,h2 c hc]),h2 k hk])⟩
 ·exact⟨h1,h2⟩
theorem z2f {r c:Nat}(hc:c<r){G:U1 × U1}(h1:U9 r G.1)(h2:U9 r G.2):∀ k,k≤r→U9 r (elS c G k).1∧U9 r (elS c G k).2
 |0,_=>⟨h1,h2⟩
 |k+1,hk=>by
  obtain⟨a,b⟩:=z2f hc h1 h2 k (by omega)
  exact w4d hc (by omega) a b
theorem w7b (M:U1)(c:Nat):∀ n i,0≤q8n M c n i→∃ p:Nat,q8n M c n i=p∧i≤p∧p<i+n∧(M p).getD c 0≠0
 |0,i,h=>absurd h (by show ¬ (0:Int)≤-1;decide)
 |n+1,i,h=>by
  unfold q8n at h ⊢
  cases hm:(M i).getD c 0 != 0 with
  |true=>exact⟨i,rfl,k1v _,by omega,bne_iff_ne.mp hm⟩
  |false=>
   rw[hm]at h
   obtain⟨p,h1,h2,h3,h4⟩:=w7b M c n (i+1) h
   exact⟨p,h1,by omega,by omega,h4⟩
theorem z5x {M:U1}{r c:Nat}(hc:c<r)(h:0≤q2f M r c):∃ p:Nat,q2f M r c=p∧c≤p∧p<r∧(M p).getD c 0≠0:=by
 obtain⟨p,h1,h2,h3,h4⟩:=w7b M c (r - c) c h
 exact⟨p,h1,h2,by omega,h4⟩
theorem y0e {r:Nat}{L:List x8}(h:y2s r L=true){c:Nat}(hc:c<r):0≤q2f (gs r L c).1 r c:=by
 unfold y2s at h
 exact k0z (List.all_eq_true.mp h c (List.mem_range.mpr hc))
theorem y2t {r:Nat}{L:List x8}(hok:y2s r L=true)(hL:L.length=r)(hr:∀ s∈L,s.length=r):∀ c,c≤r→U9 r (gs r L c).1∧U9 r (gs r L c).2
 |0,_=>by
  refine⟨fun i hi=>?_,fun i _=>by show (Z4 idA r i).length=r;unfold Z4;rw[k1x,k3q]⟩
  show (L.getD i []).length=r
  rw[k0v,k0w (by omega)]
  exact hr _ (k1w _)
 |c+1,hc=>by
  obtain⟨a,b⟩:=y2t hok hL hr c (by omega)
  obtain⟨p,p1,_,p3,_⟩:=z5x (by omega) (y0e hok (c:=c) (by omega))
  have e:(q2f (gs r L c).1 r c).toNat=p:=by rw[p1];exact k0u p
  have s1:U9 r (z0b r c (gs r L c)).1:=by show U9 r (swp _ c (q2f _ r c).toNat);rw[e];exact q2x a (by omega) p3
  have s2:U9 r (z0b r c (gs r L c)).2:=by show U9 r (swp _ c (q2f _ r c).toNat);rw[e];exact q2x b (by omega) p3
  exact z2f (by omega) (q1q s1 c (by rw[q0x];exact s1 c (by omega))) (q1q s2 c (by rw[q0x];exact s2 c (by omega))) r (k1v _)
theorem q2t {l:x8}{c:Nat}(h:c<l.length):l[c]?=some (l.getD c 0):=by rw[k0v,k0w h];rfl
theorem w4e (M:U1)(hM:U9 1 M)(c:Nat)(hc:c<1):AFm k0q 2 q9d [.msl 0 1 0 1,i64 c] [.cells y7 [.msl 1 1 0 1],.row y9 1 (bx (M 0))] (Q8 (i64 (q2f M 1 c)) [.cells y7 [.msl 1 1 0 1],.row y9 1 (bx (M 0))]):=by
 refine AFm.mono (R:=fun r H'=>∃ z,z=q2f M 1 c∧r=i64 z∧H'=[.cells y7 [.msl 1 1 0 1],.row y9 1 (bx (M 0))]) ?_ (by rintro r H' ⟨z,rfl,rfl,rfl⟩;exact⟨rfl,rfl⟩)
 have e0:q2f M 1 c=q8n M c (1 - c) c:=rfl
 generalize q2f M 1 c=Z at e0
 refine Z5 2 hT Tryz.func207 rfl rfl Tryz.ntmps207 rfl rfl ?_
 refine z7 hT ?_
 refine w9 ⟨⟨22,[]⟩,[.cells y7 [.msl 1 1 0 1],.row y9 1 (bx (M 0))]⟩ (Z = -1) (z7 hT ?_) (fun hZ=>?_)
 ·refine y8 ?_
  refine Q2 (fun n s=>∃ (k:Nat) (j:Int),n+k=1∧j=k∧Z=q8n M c (1 - k) k∧s=⟨⟨22,[(0,.msl 0 1 0 1),(1,i64 c),(5,i64 j)]⟩,[.cells y7 [.msl 1 1 0 1],.row y9 1 (bx (M 0))]⟩) (1 - c) ⟨⟨22,_⟩,_⟩ (z6 [0,1] [0,1,5] rfl) ⟨c,c,by omega,rfl,e0,rfl⟩ ?_
  rintro n s ⟨k,j,hnk,hj,hz,rfl⟩
  refine u5 (z7 hT ?_)
  refine y6 (u7 (fun h=>?_) (fun h=>?_))
  ·have h:=k0z (show decide (j<((1:Nat):Int))=true from h)
   have hk:k<1:=by omega
   refine x6 ?_
   have hzs:q8n M c (1 - k) k=match (M k).getD c 0 != 0 with|true=>(k:Int)|false=>q8n M c (1 - (k+1)) (k+1):=by
    rw[show 1 - k=(1 - (k+1))+1 by omega];rfl
   rw[hzs]at hz
   have hg:=q2t (l:=M k) (c:=c) (by rw[hM k hk];exact hc)
   have hlt:=((M k).getD c 0).toNat_lt
   generalize hv:(M k).getD c 0=v at hg hz hlt
   have hgx:(bx (M k))[0+((c:Nat):Int).toNat]?=some [u8 v]:=by rw[k0u,Nat.zero_add];exact W4 hg
   refine w9 ⟨⟨22,[(0,.msl 0 1 0 1),(1,i64 c),(5,i64 j)]⟩,[.cells y7 [.msl 1 1 0 1],.row y9 1 (bx (M 0))]⟩ (v=0) (y8 (z7 hT ?_)) (fun hv0=>?_)
   ·subst hj
    have hk4:k=0:=by omega
    rcases hk4 with rfl
    all_goals
     refine⟨by decide,?_⟩
     refine⟨⟨by omega,by omega⟩,?_⟩
     refine Z1 hgx ?_
     refine y6 (u7 (fun h=>?_) (fun h=>?_))
     ·have h:(((v.toNat:Nat):Int) != 0)=true:=h
      rw[bne_iff_ne]at h
      have hne:v≠0:=fun e=>h (by rw[e];rfl)
      rw[bne_iff_ne.mpr hne]at hz
      refine z7 hT ?_
      refine u0 ?_
      exact x7 [0,1] ⟨_,hz.symm,rfl,rfl⟩ rfl
     ·have h:(((v.toNat:Nat):Int) != 0)=false:=h
      rw[bne_eq_false_iff_eq]at h
      exact x6 ⟨z6 [0,1] [0,1,5] rfl,UInt8.toNat_inj.mp (by show v.toNat=0;omega)⟩
   ·rw[hv0]at hz
    refine z8 hT ?_
    exact⟨n - 1,by omega,_,z6 [0,1] [0,1,5] rfl,k+1,IntKind.i64.wrap (j+1),by omega,by rw[Q1 _ (by omega) (by omega)];omega,hz,rfl⟩
  ·have h:=k0y (show decide (j<((1:Nat):Int))=false from h)
   rw[show 1 - k=0 by omega]at hz
   refine Q6 ?_
   exact⟨z6 [0,1] [] rfl,hz⟩
 refine z7 hT ?_
 refine u0 ?_
 exact x7 [0,1] ⟨_,hZ.symm,rfl,rfl⟩ rfl
theorem w4f (M:U1)(hM:U9 2 M)(c:Nat)(hc:c<2):AFm k0q 3 q9d [.msl 0 1 0 2,i64 c] [.cells y7 [.msl 1 1 0 2,.msl 2 1 0 2],.row y9 1 (bx (M 0)),.row y9 1 (bx (M 1))] (Q8 (i64 (q2f M 2 c)) [.cells y7 [.msl 1 1 0 2,.msl 2 1 0 2],.row y9 1 (bx (M 0)),.row y9 1 (bx (M 1))]):=by
 refine AFm.mono (R:=fun r H'=>∃ z,z=q2f M 2 c∧r=i64 z∧H'=[.cells y7 [.msl 1 1 0 2,.msl 2 1 0 2],.row y9 1 (bx (M 0)),.row y9 1 (bx (M 1))]) ?_ (by rintro r H' ⟨z,rfl,rfl,rfl⟩;exact⟨rfl,rfl⟩)
 have e0:q2f M 2 c=q8n M c (2 - c) c:=rfl
 generalize q2f M 2 c=Z at e0
 refine Z5 3 hT Tryz.func207 rfl rfl Tryz.ntmps207 rfl rfl ?_
 refine z7 hT ?_
 refine w9 ⟨⟨22,[]⟩,[.cells y7 [.msl 1 1 0 2,.msl 2 1 0 2],.row y9 1 (bx (M 0)),.row y9 1 (bx (M 1))]⟩ (Z = -1) (z7 hT ?_) (fun hZ=>?_)
 ·refine y8 ?_
  refine Q2 (fun n s=>∃ (k:Nat) (j:Int),n+k=2∧j=k∧Z=q8n M c (2 - k) k∧s=⟨⟨22,[(0,.msl 0 1 0 2),(1,i64 c),(5,i64 j)]⟩,[.cells y7 [.msl 1 1 0 2,.msl 2 1 0 2],.row y9 1 (bx (M 0)),.row y9 1 (bx (M 1))]⟩) (2 - c) ⟨⟨22,_⟩,_⟩ (z6 [0,1,2] [0,1,5] rfl) ⟨c,c,by omega,rfl,e0,rfl⟩ ?_
  rintro n s ⟨k,j,hnk,hj,hz,rfl⟩
  refine u5 (z7 hT ?_)
  refine y6 (u7 (fun h=>?_) (fun h=>?_))
  ·have h:=k0z (show decide (j<((2:Nat):Int))=true from h)
   have hk:k<2:=by omega
   refine x6 ?_
   have hzs:q8n M c (2 - k) k=match (M k).getD c 0 != 0 with|true=>(k:Int)|false=>q8n M c (2 - (k+1)) (k+1):=by
    rw[show 2 - k=(2 - (k+1))+1 by omega];rfl
   rw[hzs]at hz
   have hg:=q2t (l:=M k) (c:=c) (by rw[hM k hk];exact hc)
   have hlt:=((M k).getD c 0).toNat_lt
   generalize hv:(M k).getD c 0=v at hg hz hlt
   have hgx:(bx (M k))[0+((c:Nat):Int).toNat]?=some [u8 v]:=by rw[k0u,Nat.zero_add];exact W4 hg
   refine w9 ⟨⟨22,[(0,.msl 0 1 0 2),(1,i64 c),(5,i64 j)]⟩,[.cells y7 [.msl 1 1 0 2,.msl 2 1 0 2],.row y9 1 (bx (M 0)),.row y9 1 (bx (M 1))]⟩ (v=0) (y8 (z7 hT ?_)) (fun hv0=>?_)
   ·subst hj
    have hk4:k=0∨k=1:=by omega
    rcases hk4 with rfl|rfl
    all_goals
     refine⟨by decide,?_⟩
     refine⟨⟨by omega,by omega⟩,?_⟩
     refine Z1 hgx ?_
     refine y6 (u7 (fun h=>?_) (fun h=>?_))
     ·have h:(((v.toNat:Nat):Int) != 0)=true:=h
      rw[bne_iff_ne]at h
      have hne:v≠0:=fun e=>h (by rw[e];rfl)
      rw[bne_iff_ne.mpr hne]at hz
      refine z7 hT ?_
      refine u0 ?_
      exact x7 [0,1,2] ⟨_,hz.symm,rfl,rfl⟩ rfl
     ·have h:(((v.toNat:Nat):Int) != 0)=false:=h
      rw[bne_eq_false_iff_eq]at h
      exact x6 ⟨z6 [0,1,2] [0,1,5] rfl,UInt8.toNat_inj.mp (by show v.toNat=0;omega)⟩
   ·rw[hv0]at hz
    refine z8 hT ?_
    exact⟨n - 1,by omega,_,z6 [0,1,2] [0,1,5] rfl,k+1,IntKind.i64.wrap (j+1),by omega,by rw[Q1 _ (by omega) (by omega)];omega,hz,rfl⟩
  ·have h:=k0y (show decide (j<((2:Nat):Int))=false from h)
   rw[show 2 - k=0 by omega]at hz
   refine Q6 ?_
   exact⟨z6 [0,1,2] [] rfl,hz⟩
 refine z7 hT ?_
 refine u0 ?_
 exact x7 [0,1,2] ⟨_,hZ.symm,rfl,rfl⟩ rfl
theorem w4g (M:U1)(hM:U9 3 M)(c:Nat)(hc:c<3):AFm k0q 4 q9d [.msl 0 1 0 3,i64 c] [.cells y7 [.msl 1 1 0 3,.msl 2 1 0 3,.msl 3 1 0 3],.row y9 1 (bx (M 0)),.row y9 1 (bx (M 1)),.row y9 1 (bx (M 2))] (Q8 (i64 (q2f M 3 c)) [.cells y7 [.msl 1 1 0 3,.msl 2 1 0 3,.msl 3 1 0 3],.row y9 1 (bx (M 0)),.row y9 1 (bx (M 1)),.row y9 1 (bx (M 2))]):=by
 refine AFm.mono (R:=fun r H'=>∃ z,z=q2f M 3 c∧r=i64 z∧H'=[.cells y7 [.msl 1 1 0 3,.msl 2 1 0 3,.msl 3 1 0 3],.row y9 1 (bx (M 0)),.row y9 1 (bx (M 1)),.row y9 1 (bx (M 2))]) ?_ (by rintro r H' ⟨z,rfl,rfl,rfl⟩;exact⟨rfl,rfl⟩)
 have e0:q2f M 3 c=q8n M c (3 - c) c:=rfl
 generalize q2f M 3 c=Z at e0
 refine Z5 4 hT Tryz.func207 rfl rfl Tryz.ntmps207 rfl rfl ?_
 refine z7 hT ?_
 refine w9 ⟨⟨22,[]⟩,[.cells y7 [.msl 1 1 0 3,.msl 2 1 0 3,.msl 3 1 0 3],.row y9 1 (bx (M 0)),.row y9 1 (bx (M 1)),.row y9 1 (bx (M 2))]⟩ (Z = -1) (z7 hT ?_) (fun hZ=>?_)
 ·refine y8 ?_
  refine Q2 (fun n s=>∃ (k:Nat) (j:Int),n+k=3∧j=k∧Z=q8n M c (3 - k) k∧s=⟨⟨22,[(0,.msl 0 1 0 3),(1,i64 c),(5,i64 j)]⟩,[.cells y7 [.msl 1 1 0 3,.msl 2 1 0 3,.msl 3 1 0 3],.row y9 1 (bx (M 0)),.row y9 1 (bx (M 1)),.row y9 1 (bx (M 2))]⟩) (3 - c) ⟨⟨22,_⟩,_⟩ (z6 [0,1,2,3] [0,1,5] rfl) ⟨c,c,by omega,rfl,e0,rfl⟩ ?_
  rintro n s ⟨k,j,hnk,hj,hz,rfl⟩
  refine u5 (z7 hT ?_)
  refine y6 (u7 (fun h=>?_) (fun h=>?_))
  ·have h:=k0z (show decide (j<((3:Nat):Int))=true from h)
   have hk:k<3:=by omega
   refine x6 ?_
   have hzs:q8n M c (3 - k) k=match (M k).getD c 0 != 0 with|true=>(k:Int)|false=>q8n M c (3 - (k+1)) (k+1):=by
    rw[show 3 - k=(3 - (k+1))+1 by omega];rfl
   rw[hzs]at hz
   have hg:=q2t (l:=M k) (c:=c) (by rw[hM k hk];exact hc)
   have hlt:=((M k).getD c 0).toNat_lt
   generalize hv:(M k).getD c 0=v at hg hz hlt
   have hgx:(bx (M k))[0+((c:Nat):Int).toNat]?=some [u8 v]:=by rw[k0u,Nat.zero_add];exact W4 hg
   refine w9 ⟨⟨22,[(0,.msl 0 1 0 3),(1,i64 c),(5,i64 j)]⟩,[.cells y7 [.msl 1 1 0 3,.msl 2 1 0 3,.msl 3 1 0 3],.row y9 1 (bx (M 0)),.row y9 1 (bx (M 1)),.row y9 1 (bx (M 2))]⟩ (v=0) (y8 (z7 hT ?_)) (fun hv0=>?_)
   ·subst hj
    have hk4:k=0∨k=1∨k=2:=by omega
    rcases hk4 with rfl|rfl|rfl
    all_goals
     refine⟨by decide,?_⟩
     refine⟨⟨by omega,by omega⟩,?_⟩
     refine Z1 hgx ?_
     refine y6 (u7 (fun h=>?_) (fun h=>?_))
     ·have h:(((v.toNat:Nat):Int) != 0)=true:=h
      rw[bne_iff_ne]at h
      have hne:v≠0:=fun e=>h (by rw[e];rfl)
      rw[bne_iff_ne.mpr hne]at hz
      refine z7 hT ?_
      refine u0 ?_
      exact x7 [0,1,2,3] ⟨_,hz.symm,rfl,rfl⟩ rfl
     ·have h:(((v.toNat:Nat):Int) != 0)=false:=h
      rw[bne_eq_false_iff_eq]at h
      exact x6 ⟨z6 [0,1,2,3] [0,1,5] rfl,UInt8.toNat_inj.mp (by show v.toNat=0;omega)⟩
   ·rw[hv0]at hz
    refine z8 hT ?_
    exact⟨n - 1,by omega,_,z6 [0,1,2,3] [0,1,5] rfl,k+1,IntKind.i64.wrap (j+1),by omega,by rw[Q1 _ (by omega) (by omega)];omega,hz,rfl⟩
  ·have h:=k0y (show decide (j<((3:Nat):Int))=false from h)
   rw[show 3 - k=0 by omega]at hz
   refine Q6 ?_
   exact⟨z6 [0,1,2,3] [] rfl,hz⟩
 refine z7 hT ?_
 refine u0 ?_
 exact x7 [0,1,2,3] ⟨_,hZ.symm,rfl,rfl⟩ rfl
theorem w4h (M:U1)(hM:U9 4 M)(c:Nat)(hc:c<4):AFm k0q 5 q9d [.msl 0 1 0 4,i64 c] [.cells y7 [.msl 1 1 0 4,.msl 2 1 0 4,.msl 3 1 0 4,.msl 4 1 0 4],.row y9 1 (bx (M 0)),.row y9 1 (bx (M 1)),.row y9 1 (bx (M 2)),.row y9 1 (bx (M 3))] (Q8 (i64 (q2f M 4 c)) [.cells y7 [.msl 1 1 0 4,.msl 2 1 0 4,.msl 3 1 0 4,.msl 4 1 0 4],.row y9 1 (bx (M 0)),.row y9 1 (bx (M 1)),.row y9 1 (bx (M 2)),.row y9 1 (bx (M 3))]):=by
 refine AFm.mono (R:=fun r H'=>∃ z,z=q2f M 4 c∧r=i64 z∧H'=[.cells y7 [.msl 1 1 0 4,.msl 2 1 0 4,.msl 3 1 0 4,.msl 4 1 0 4],.row y9 1 (bx (M 0)),.row y9 1 (bx (M 1)),.row y9 1 (bx (M 2)),.row y9 1 (bx (M 3))]) ?_ (by rintro r H' ⟨z,rfl,rfl,rfl⟩;exact⟨rfl,rfl⟩)
 have e0:q2f M 4 c=q8n M c (4 - c) c:=rfl
 generalize q2f M 4 c=Z at e0
 refine Z5 5 hT Tryz.func207 rfl rfl Tryz.ntmps207 rfl rfl ?_
 refine z7 hT ?_
 refine w9 ⟨⟨22,[]⟩,[.cells y7 [.msl 1 1 0 4,.msl 2 1 0 4,.msl 3 1 0 4,.msl 4 1 0 4],.row y9 1 (bx (M 0)),.row y9 1 (bx (M 1)),.row y9 1 (bx (M 2)),.row y9 1 (bx (M 3))]⟩ (Z = -1) (z7 hT ?_) (fun hZ=>?_)
 ·refine y8 ?_
  refine Q2 (fun n s=>∃ (k:Nat) (j:Int),n+k=4∧j=k∧Z=q8n M c (4 - k) k∧s=⟨⟨22,[(0,.msl 0 1 0 4),(1,i64 c),(5,i64 j)]⟩,[.cells y7 [.msl 1 1 0 4,.msl 2 1 0 4,.msl 3 1 0 4,.msl 4 1 0 4],.row y9 1 (bx (M 0)),.row y9 1 (bx (M 1)),.row y9 1 (bx (M 2)),.row y9 1 (bx (M 3))]⟩) (4 - c) ⟨⟨22,_⟩,_⟩ (z6 [0,1,2,3,4] [0,1,5] rfl) ⟨c,c,by omega,rfl,e0,rfl⟩ ?_
  rintro n s ⟨k,j,hnk,hj,hz,rfl⟩
  refine u5 (z7 hT ?_)
  refine y6 (u7 (fun h=>?_) (fun h=>?_))
  ·have h:=k0z (show decide (j<((4:Nat):Int))=true from h)
   have hk:k<4:=by omega
   refine x6 ?_
   have hzs:q8n M c (4 - k) k=match (M k).getD c 0 != 0 with|true=>(k:Int)|false=>q8n M c (4 - (k+1)) (k+1):=by
    rw[show 4 - k=(4 - (k+1))+1 by omega];rfl
   rw[hzs]at hz
   have hg:=q2t (l:=M k) (c:=c) (by rw[hM k hk];exact hc)
   have hlt:=((M k).getD c 0).toNat_lt
   generalize hv:(M k).getD c 0=v at hg hz hlt
   have hgx:(bx (M k))[0+((c:Nat):Int).toNat]?=some [u8 v]:=by rw[k0u,Nat.zero_add];exact W4 hg
   refine w9 ⟨⟨22,[(0,.msl 0 1 0 4),(1,i64 c),(5,i64 j)]⟩,[.cells y7 [.msl 1 1 0 4,.msl 2 1 0 4,.msl 3 1 0 4,.msl 4 1 0 4],.row y9 1 (bx (M 0)),.row y9 1 (bx (M 1)),.row y9 1 (bx (M 2)),.row y9 1 (bx (M 3))]⟩ (v=0) (y8 (z7 hT ?_)) (fun hv0=>?_)
   ·subst hj
    have hk4:k=0∨k=1∨k=2∨k=3:=by omega
    rcases hk4 with rfl|rfl|rfl|rfl
    all_goals
     refine⟨by decide,?_⟩
     refine⟨⟨by omega,by omega⟩,?_⟩
     refine Z1 hgx ?_
     refine y6 (u7 (fun h=>?_) (fun h=>?_))
     ·have h:(((v.toNat:Nat):Int) != 0)=true:=h
      rw[bne_iff_ne]at h
      have hne:v≠0:=fun e=>h (by rw[e];rfl)
      rw[bne_iff_ne.mpr hne]at hz
      refine z7 hT ?_
      refine u0 ?_
      exact x7 [0,1,2,3,4] ⟨_,hz.symm,rfl,rfl⟩ rfl
     ·have h:(((v.toNat:Nat):Int) != 0)=false:=h
      rw[bne_eq_false_iff_eq]at h
      exact x6 ⟨z6 [0,1,2,3,4] [0,1,5] rfl,UInt8.toNat_inj.mp (by show v.toNat=0;omega)⟩
   ·rw[hv0]at hz
    refine z8 hT ?_
    exact⟨n - 1,by omega,_,z6 [0,1,2,3,4] [0,1,5] rfl,k+1,IntKind.i64.wrap (j+1),by omega,by rw[Q1 _ (by omega) (by omega)];omega,hz,rfl⟩
  ·have h:=k0y (show decide (j<((4:Nat):Int))=false from h)
   rw[show 4 - k=0 by omega]at hz
   refine Q6 ?_
   exact⟨z6 [0,1,2,3,4] [] rfl,hz⟩
 refine z7 hT ?_
 refine u0 ?_
 exact x7 [0,1,2,3,4] ⟨_,hZ.symm,rfl,rfl⟩ rfl
end Go.Proofs.YtkjklhcfgbaceaaGreat.AL
