/- A part of the proof. -/
import Derived.Test.YtkjklhcfgbaceaaGreatScrubI
open Go.Proofs.Tryz renaming prog→k0q
open List renaming getElem?_eq_getElem→k0w,getD_eq_getElem?_getD→k0v,length_map→k1x,getElem_mem→k1w,length_replicate→k2z,length_range→k3q
open Int renaming toNat_natCast→k0u
open Nat renaming le_refl→k1v
set_option maxHeartbeats 4000000
set_option maxRecDepth 20000
namespace Go.Proofs.YtkjklhcfgbaceaaGreat.AL
open Go Go.Proofs
theorem y7k {f:FuncId}{args:List AV}{M:Nat→x9}{n:Nat}{e:Int}(hM:∀ i,i<1→(M i).length=n)(h:AF k0q f args [] (Q9 (.tup [.msl 0 1 0 1,i64 e]) [.cells y9 [.msl 1 1 0 n],.row x6 1 (bx (M 0))])):AF k0q f args [] (Q9 (.tup [.msl 0 1 0 1,i64 e]) [.row y9 1 (w9 [M 0])]):=by
 refine z5f h ?_
 rintro _ _ ⟨rfl,rfl⟩
 refine⟨_,_,?_,rfl,rfl⟩
 refine Wk.trans (q0b 1 0 0 n rfl rfl rfl (by rw[Z1,hM 0 (by decide)])) ?_
 refine Wk.trans (q2g 0 [bP (M 0)] rfl rfl (show 1≤140737488355328 by decide)) ?_
 exact z8 [0] [0] rfl
theorem x1e {f:FuncId}{args:List AV}{M:Nat→x9}{n:Nat}{e:Int}(hM:∀ i,i<1→(M i).length=n)(h:AF k0q f args [] (Q9 (.tup [.msl 0 1 0 1,i64 e]) [.cells y9 [.msl 1 1 0 n],.row x6 1 (bx (M 0))])):AF k0q f args [] (Q9 (.tup [.p (.sl 1 (w9 [M 0])),i64 e]) []):=
 y4d (t:=y9) (sz:=1) (n:=1) (y7k hM h) rfl rfl
theorem y7m {f:FuncId}{args:List AV}{M:Nat→x9}{n:Nat}{e:Int}(hM:∀ i,i<2→(M i).length=n)(h:AF k0q f args [] (Q9 (.tup [.msl 0 1 0 2,i64 e]) [.cells y9 [.msl 1 1 0 n,.msl 2 1 0 n],.row x6 1 (bx (M 0)),.row x6 1 (bx (M 1))])):AF k0q f args [] (Q9 (.tup [.msl 0 1 0 2,i64 e]) [.row y9 1 (w9 [M 0,M 1])]):=by
 refine z5f h ?_
 rintro _ _ ⟨rfl,rfl⟩
 refine⟨_,_,?_,rfl,rfl⟩
 refine Wk.trans (q0b 1 0 0 n rfl rfl rfl (by rw[Z1,hM 0 (by decide)])) ?_
 refine Wk.trans (q0b 2 0 1 n rfl rfl rfl (by rw[Z1,hM 1 (by decide)])) ?_
 refine Wk.trans (q2g 0 [bP (M 0),bP (M 1)] rfl rfl (show 2≤140737488355328 by decide)) ?_
 exact z8 [0] [0] rfl
theorem x1f {f:FuncId}{args:List AV}{M:Nat→x9}{n:Nat}{e:Int}(hM:∀ i,i<2→(M i).length=n)(h:AF k0q f args [] (Q9 (.tup [.msl 0 1 0 2,i64 e]) [.cells y9 [.msl 1 1 0 n,.msl 2 1 0 n],.row x6 1 (bx (M 0)),.row x6 1 (bx (M 1))])):AF k0q f args [] (Q9 (.tup [.p (.sl 1 (w9 [M 0,M 1])),i64 e]) []):=
 y4d (t:=y9) (sz:=1) (n:=2) (y7m hM h) rfl rfl
theorem y7n {f:FuncId}{args:List AV}{M:Nat→x9}{n:Nat}{e:Int}(hM:∀ i,i<3→(M i).length=n)(h:AF k0q f args [] (Q9 (.tup [.msl 0 1 0 3,i64 e]) [.cells y9 [.msl 1 1 0 n,.msl 2 1 0 n,.msl 3 1 0 n],.row x6 1 (bx (M 0)),.row x6 1 (bx (M 1)),.row x6 1 (bx (M 2))])):AF k0q f args [] (Q9 (.tup [.msl 0 1 0 3,i64 e]) [.row y9 1 (w9 [M 0,M 1,M 2])]):=by
 refine z5f h ?_
 rintro _ _ ⟨rfl,rfl⟩
 refine⟨_,_,?_,rfl,rfl⟩
 refine Wk.trans (q0b 1 0 0 n rfl rfl rfl (by rw[Z1,hM 0 (by decide)])) ?_
 refine Wk.trans (q0b 2 0 1 n rfl rfl rfl (by rw[Z1,hM 1 (by decide)])) ?_
 refine Wk.trans (q0b 3 0 2 n rfl rfl rfl (by rw[Z1,hM 2 (by decide)])) ?_
 refine Wk.trans (q2g 0 [bP (M 0),bP (M 1),bP (M 2)] rfl rfl (show 3≤140737488355328 by decide)) ?_
 exact z8 [0] [0] rfl
theorem x1g {f:FuncId}{args:List AV}{M:Nat→x9}{n:Nat}{e:Int}(hM:∀ i,i<3→(M i).length=n)(h:AF k0q f args [] (Q9 (.tup [.msl 0 1 0 3,i64 e]) [.cells y9 [.msl 1 1 0 n,.msl 2 1 0 n,.msl 3 1 0 n],.row x6 1 (bx (M 0)),.row x6 1 (bx (M 1)),.row x6 1 (bx (M 2))])):AF k0q f args [] (Q9 (.tup [.p (.sl 1 (w9 [M 0,M 1,M 2])),i64 e]) []):=
 y4d (t:=y9) (sz:=1) (n:=3) (y7n hM h) rfl rfl
theorem y7p {f:FuncId}{args:List AV}{M:Nat→x9}{n:Nat}{e:Int}(hM:∀ i,i<4→(M i).length=n)(h:AF k0q f args [] (Q9 (.tup [.msl 0 1 0 4,i64 e]) [.cells y9 [.msl 1 1 0 n,.msl 2 1 0 n,.msl 3 1 0 n,.msl 4 1 0 n],.row x6 1 (bx (M 0)),.row x6 1 (bx (M 1)),.row x6 1 (bx (M 2)),.row x6 1 (bx (M 3))])):AF k0q f args [] (Q9 (.tup [.msl 0 1 0 4,i64 e]) [.row y9 1 (w9 [M 0,M 1,M 2,M 3])]):=by
 refine z5f h ?_
 rintro _ _ ⟨rfl,rfl⟩
 refine⟨_,_,?_,rfl,rfl⟩
 refine Wk.trans (q0b 1 0 0 n rfl rfl rfl (by rw[Z1,hM 0 (by decide)])) ?_
 refine Wk.trans (q0b 2 0 1 n rfl rfl rfl (by rw[Z1,hM 1 (by decide)])) ?_
 refine Wk.trans (q0b 3 0 2 n rfl rfl rfl (by rw[Z1,hM 2 (by decide)])) ?_
 refine Wk.trans (q0b 4 0 3 n rfl rfl rfl (by rw[Z1,hM 3 (by decide)])) ?_
 refine Wk.trans (q2g 0 [bP (M 0),bP (M 1),bP (M 2),bP (M 3)] rfl rfl (show 4≤140737488355328 by decide)) ?_
 exact z8 [0] [0] rfl
theorem w8s {f:FuncId}{args:List AV}{M:Nat→x9}{n:Nat}{e:Int}(hM:∀ i,i<4→(M i).length=n)(h:AF k0q f args [] (Q9 (.tup [.msl 0 1 0 4,i64 e]) [.cells y9 [.msl 1 1 0 n,.msl 2 1 0 n,.msl 3 1 0 n,.msl 4 1 0 n],.row x6 1 (bx (M 0)),.row x6 1 (bx (M 1)),.row x6 1 (bx (M 2)),.row x6 1 (bx (M 3))])):AF k0q f args [] (Q9 (.tup [.p (.sl 1 (w9 [M 0,M 1,M 2,M 3])),i64 e]) []):=
 y4d (t:=y9) (sz:=1) (n:=4) (y7p hM h) rfl rfl
theorem x8h:AF k0q q3n [i64 1] [] (Q9 (.tup [.msl 0 1 0 1,i64 0]) [.cells y9 [.msl 1 1 0 1],.row x6 1 (bx (Z5 idA 1 0))]):=by
 have ws:=q3h 1 (by decide) (by decide)
 have wf:=z4f q6x 1 (by decide) idA (fun i k _ _=>z5t i k)
 refine Q8 hT Tryz.func197 rfl rfl Tryz.ntmps197 rfl ?_
 refine y6 hT ?_
 refine u6 (y6 hT ?_)
 refine Q1 (Q5 ws _ rfl rfl) ?_
 refine y8 ?_
 refine x7 ?_
 refine y6 hT ?_
 refine Q1 wf ?_
 refine u5 ?_
 exact x8 [0,1] ⟨rfl,rfl⟩ rfl
theorem w8t:AF k0q q3n [i64 1] [] (Q9 (.tup [.msl 0 1 0 1,i64 0]) [.row y9 1 (w9 [Z5 idA 1 0])]):=y7k (M:=Z5 idA 1) (fun i _=>by unfold Z5;rw[k1x,k3q]) x8h
theorem x8i:AF k0q q3n [i64 2] [] (Q9 (.tup [.msl 0 1 0 2,i64 0]) [.cells y9 [.msl 1 1 0 2,.msl 2 1 0 2],.row x6 1 (bx (Z5 idA 2 0)),.row x6 1 (bx (Z5 idA 2 1))]):=by
 have ws:=q3h 2 (by decide) (by decide)
 have wf:=z4g q6x 2 (by decide) idA (fun i k _ _=>z5t i k)
 refine Q8 hT Tryz.func197 rfl rfl Tryz.ntmps197 rfl ?_
 refine y6 hT ?_
 refine u6 (y6 hT ?_)
 refine Q1 (Q5 ws _ rfl rfl) ?_
 refine y8 ?_
 refine x7 ?_
 refine y6 hT ?_
 refine Q1 wf ?_
 refine u5 ?_
 exact x8 [0,1,2] ⟨rfl,rfl⟩ rfl
theorem w8u:AF k0q q3n [i64 2] [] (Q9 (.tup [.msl 0 1 0 2,i64 0]) [.row y9 1 (w9 [Z5 idA 2 0,Z5 idA 2 1])]):=y7m (M:=Z5 idA 2) (fun i _=>by unfold Z5;rw[k1x,k3q]) x8i
theorem x8j:AF k0q q3n [i64 3] [] (Q9 (.tup [.msl 0 1 0 3,i64 0]) [.cells y9 [.msl 1 1 0 3,.msl 2 1 0 3,.msl 3 1 0 3],.row x6 1 (bx (Z5 idA 3 0)),.row x6 1 (bx (Z5 idA 3 1)),.row x6 1 (bx (Z5 idA 3 2))]):=by
 have ws:=q3h 3 (by decide) (by decide)
 have wf:=z4h q6x 3 (by decide) idA (fun i k _ _=>z5t i k)
 refine Q8 hT Tryz.func197 rfl rfl Tryz.ntmps197 rfl ?_
 refine y6 hT ?_
 refine u6 (y6 hT ?_)
 refine Q1 (Q5 ws _ rfl rfl) ?_
 refine y8 ?_
 refine x7 ?_
 refine y6 hT ?_
 refine Q1 wf ?_
 refine u5 ?_
 exact x8 [0,1,2,3] ⟨rfl,rfl⟩ rfl
theorem w8v:AF k0q q3n [i64 3] [] (Q9 (.tup [.msl 0 1 0 3,i64 0]) [.row y9 1 (w9 [Z5 idA 3 0,Z5 idA 3 1,Z5 idA 3 2])]):=y7n (M:=Z5 idA 3) (fun i _=>by unfold Z5;rw[k1x,k3q]) x8j
theorem x8k:AF k0q q3n [i64 4] [] (Q9 (.tup [.msl 0 1 0 4,i64 0]) [.cells y9 [.msl 1 1 0 4,.msl 2 1 0 4,.msl 3 1 0 4,.msl 4 1 0 4],.row x6 1 (bx (Z5 idA 4 0)),.row x6 1 (bx (Z5 idA 4 1)),.row x6 1 (bx (Z5 idA 4 2)),.row x6 1 (bx (Z5 idA 4 3))]):=by
 have ws:=q3h 4 (by decide) (by decide)
 have wf:=z4i q6x 4 (by decide) idA (fun i k _ _=>z5t i k)
 refine Q8 hT Tryz.func197 rfl rfl Tryz.ntmps197 rfl ?_
 refine y6 hT ?_
 refine u6 (y6 hT ?_)
 refine Q1 (Q5 ws _ rfl rfl) ?_
 refine y8 ?_
 refine x7 ?_
 refine y6 hT ?_
 refine Q1 wf ?_
 refine u5 ?_
 exact x8 [0,1,2,3,4] ⟨rfl,rfl⟩ rfl
theorem w8w:AF k0q q3n [i64 4] [] (Q9 (.tup [.msl 0 1 0 4,i64 0]) [.row y9 1 (w9 [Z5 idA 4 0,Z5 idA 4 1,Z5 idA 4 2,Z5 idA 4 3])]):=y7p (M:=Z5 idA 4) (fun i _=>by unfold Z5;rw[k1x,k3q]) x8k
theorem x8m (c:Nat)(c1:1≤c)(c2:c≤64):AF k0q q5j [i64 1,i64 c] [] (Q9 (.tup [.p (.sl 1 (w9 [Z5 (q8t c) c 0])),i64 0]) []):=by
 refine x1e (M:=Z5 (q8t c) c) (n:=c) (fun i _=>by unfold Z5;rw[k1x,k3q]) ?_
 have ws:=q3h 1 (by decide) (by decide)
 have wc:=q3h c (by omega) (by omega)
 have wn:=q4p
 have wf:=x4j q5k (.box [.box fP]) (.box [.raw (.int .i64 c)]) c (by omega) (q8t c) (fun i k _ hk=>z2a c i k hk (by omega))
 generalize Z5 (q8t c) c=M at wf ⊢
 unfold q3x at wn
 generalize fP=F at wn wf
 refine Q8 hT Tryz.func198 rfl rfl Tryz.ntmps198 rfl ?_
 refine y6 hT ?_
 refine Z3 (Z4 0 [.raw (.int .i64 c)] rfl rfl) ?_
 refine u0 ⟨⟨20,[(0,i64 1),(3,.p (.box [.raw (.int .i64 c)]))]⟩,[]⟩ True (y6 hT ?_) (fun _=>?_)
 ·refine Q1 (Q5 ws _ rfl rfl) ?_
  refine Q1 (Q5 wc _ rfl rfl) ?_
  refine y8 ?_
  exact x7 ⟨z8 [] [0,3] rfl,trivial⟩
 refine u0 ⟨⟨20,[(0,i64 1),(3,.p (.box [.raw (.int .i64 c)])),(6,.p (.box [.box F]))]⟩,[]⟩ True (y7 hT ?_) (fun _=>?_)
 ·refine Q1 (Q5 wn _ rfl rfl) ?_
  exact⟨Wk.trans (Z4 0 [.box F] rfl rfl) (z8 [] [0,3,6] rfl),trivial⟩
 refine y6 hT ?_
 refine Q1 wf ?_
 refine u5 ?_
 exact x8 [0,1] ⟨rfl,rfl⟩ rfl
theorem x8n (c:Nat)(c1:1≤c)(c2:c≤64):AF k0q q5j [i64 2,i64 c] [] (Q9 (.tup [.p (.sl 1 (w9 [Z5 (q8t c) c 0,Z5 (q8t c) c 1])),i64 0]) []):=by
 refine x1f (M:=Z5 (q8t c) c) (n:=c) (fun i _=>by unfold Z5;rw[k1x,k3q]) ?_
 have ws:=q3h 2 (by decide) (by decide)
 have wc:=q3h c (by omega) (by omega)
 have wn:=q4p
 have wf:=x4k q5k (.box [.box fP]) (.box [.raw (.int .i64 c)]) c (by omega) (q8t c) (fun i k _ hk=>z2a c i k hk (by omega))
 generalize Z5 (q8t c) c=M at wf ⊢
 unfold q3x at wn
 generalize fP=F at wn wf
 refine Q8 hT Tryz.func198 rfl rfl Tryz.ntmps198 rfl ?_
 refine y6 hT ?_
 refine Z3 (Z4 0 [.raw (.int .i64 c)] rfl rfl) ?_
 refine u0 ⟨⟨20,[(0,i64 2),(3,.p (.box [.raw (.int .i64 c)]))]⟩,[]⟩ True (y6 hT ?_) (fun _=>?_)
 ·refine Q1 (Q5 ws _ rfl rfl) ?_
  refine Q1 (Q5 wc _ rfl rfl) ?_
  refine y8 ?_
  exact x7 ⟨z8 [] [0,3] rfl,trivial⟩
 refine u0 ⟨⟨20,[(0,i64 2),(3,.p (.box [.raw (.int .i64 c)])),(6,.p (.box [.box F]))]⟩,[]⟩ True (y7 hT ?_) (fun _=>?_)
 ·refine Q1 (Q5 wn _ rfl rfl) ?_
  exact⟨Wk.trans (Z4 0 [.box F] rfl rfl) (z8 [] [0,3,6] rfl),trivial⟩
 refine y6 hT ?_
 refine Q1 wf ?_
 refine u5 ?_
 exact x8 [0,1,2] ⟨rfl,rfl⟩ rfl
theorem x8p (c:Nat)(c1:1≤c)(c2:c≤64):AF k0q q5j [i64 3,i64 c] [] (Q9 (.tup [.p (.sl 1 (w9 [Z5 (q8t c) c 0,Z5 (q8t c) c 1,Z5 (q8t c) c 2])),i64 0]) []):=by
 refine x1g (M:=Z5 (q8t c) c) (n:=c) (fun i _=>by unfold Z5;rw[k1x,k3q]) ?_
 have ws:=q3h 3 (by decide) (by decide)
 have wc:=q3h c (by omega) (by omega)
 have wn:=q4p
 have wf:=x4m q5k (.box [.box fP]) (.box [.raw (.int .i64 c)]) c (by omega) (q8t c) (fun i k _ hk=>z2a c i k hk (by omega))
 generalize Z5 (q8t c) c=M at wf ⊢
 unfold q3x at wn
 generalize fP=F at wn wf
 refine Q8 hT Tryz.func198 rfl rfl Tryz.ntmps198 rfl ?_
 refine y6 hT ?_
 refine Z3 (Z4 0 [.raw (.int .i64 c)] rfl rfl) ?_
 refine u0 ⟨⟨20,[(0,i64 3),(3,.p (.box [.raw (.int .i64 c)]))]⟩,[]⟩ True (y6 hT ?_) (fun _=>?_)
 ·refine Q1 (Q5 ws _ rfl rfl) ?_
  refine Q1 (Q5 wc _ rfl rfl) ?_
  refine y8 ?_
  exact x7 ⟨z8 [] [0,3] rfl,trivial⟩
 refine u0 ⟨⟨20,[(0,i64 3),(3,.p (.box [.raw (.int .i64 c)])),(6,.p (.box [.box F]))]⟩,[]⟩ True (y7 hT ?_) (fun _=>?_)
 ·refine Q1 (Q5 wn _ rfl rfl) ?_
  exact⟨Wk.trans (Z4 0 [.box F] rfl rfl) (z8 [] [0,3,6] rfl),trivial⟩
 refine y6 hT ?_
 refine Q1 wf ?_
 refine u5 ?_
 exact x8 [0,1,2,3] ⟨rfl,rfl⟩ rfl
end Go.Proofs.YtkjklhcfgbaceaaGreat.AL
/- The layer 2 (mat): the product of two matrices (printed by genmat.py). -/
namespace Go.Proofs.YtkjklhcfgbaceaaGreat.AL
open Go Go.Proofs
def Q6 (a:x9)(B:List x9)(c:Nat):Nat→x9
 |0=>List.replicate c 0
 |k+1=>q2b (Q6 a B c k) (B.getD k []) (a.getD k 0)
theorem X3 {B:List x9}(a:x9){c:Nat}(hB:∀ s∈B,s.length=c):∀ {k:Nat},k≤B.length→(Q6 a B c k).length=c
 |0,_=>k2z
 |k+1,h=>by
  have ih:=X3 (B:=B) a hB (k:=k) (by omega)
  have hk:=k0w (show k<B.length by omega)
  have hl:=hB _ (k1w (show k<B.length by omega))
  rw[Q6,q8j _ (by rw[ih,k0v,hk];exact hl.symm),ih]
theorem U4 {a:x9}{B:List x9}(c:Nat){k:Nat}{x:UInt8}{b:x9}(ha:a[k]?=some x)(hb:B[k]?=some b):Q6 a B c (k+1)=q2b (Q6 a B c k) b x:=by
 rw[Q6,k0v,k0v,ha,hb];rfl
theorem q4t (a:x9)(B:List x9)(c i:Nat):Z5 (fun _ _=>0) c i=Q6 a B c 0:=by
 unfold Z5 Q6
 rw[List.map_const',k3q]
theorem w8x (a0:x9)(B:List x9)(q c:Nat)(q1:1≤q)(q2:q≤64)(c1:1≤c)(c2:c≤4096)(hA:∀ s∈([a0]:List x9),s.length=q)(hB:B.length=q)(hBc:∀ s∈B,s.length=c) :
 AF k0q q0r [.p (.sl 1 (w9 [a0])),.p (.sl 1 (w9 B))] [] (Q9 (.tup [.msl 0 1 0 1,i64 0]) [.cells y9 [.msl 1 1 0 c],.row x6 1 (bx (Q6 a0 B c q))]):=by
 have wA:=q0i [a0] q (show 1≤1 by decide) (show 1≤64 by decide) q1 (by omega) hA
 have wB:=q0i B c (by omega) (by omega) c1 c2 hBc
 have wn:=q4p
 have hcl:=Y6 B
 have h0:=k0w (show 0<B.length by omega)
 have hc0:=hBc _ (k1w (show 0<B.length by omega))
 generalize B[0]=b0 at h0 hc0
 have hx0:(w9 B)[(0:Int).toNat]?=some [bP b0]:=Y5 h0
 have hb0:=Z1 b0
 have wf:=z4f q1i (bx b0).length (by omega) (fun _ _=>0) (fun i k _ _=>q4s i k)
 have ha0:a0.length=q:=hA a0 (by simp)
 have hx10:=Z1 a0
 have wadd:=fun(to row:x9) (x:UInt8) (ht:to.length=c) (hr:row.length=c)=>q7a to row x (by omega) (by omega)
 unfold q3x at wn wadd
 generalize fP=F at wn wadd
 refine Q8 hT Tryz.func164 rfl rfl Tryz.ntmps164 rfl ?_
 refine y6 hT ?_
 refine u0 ⟨⟨65,[(0,.p (.sl 1 (w9 [a0]))),(1,.p (.sl 1 (w9 B)))]⟩,[]⟩ True (y6 hT ?_) (fun _=>?_)
 ·refine Q1 (Q5 wA _ rfl rfl) ?_
  refine Q1 (Q5 wB _ rfl rfl) ?_
  refine⟨by decide,Z2 rfl ?_⟩
  refine y8 (u9 (fun h=>?_) (fun h=>?_))
  ·have h:((((bx a0).length:Nat):Int) != (((w9 B).length:Nat):Int))=true:=h
   rw[bne_iff_ne]at h
   omega
  exact x7 ⟨z8 [] [0,1] rfl,trivial⟩
 refine y6 hT ?_
 refine Q1 (Q5 wn _ rfl rfl) ?_
 refine Q4 (fun st=>∃ c',c'=c∧st=⟨⟨65,[(0,.p (.sl 1 (w9 [a0]))),(1,.p (.sl 1 (w9 B))),(6,.p (.box F)),(7,.msl 0 1 0 1)]⟩,[.cells y9 [.msl 1 1 0 c'],.row x6 1 (bx (Z5 (fun _ _=>0) c' 0))]⟩) (y7 hT ?_) ?_
 ·refine⟨by decide,Z2 hx0 ?_⟩
  refine Q1 wf ?_
  exact⟨_,z8 [0,1] [0,1,6,7] rfl,_,hb0.trans hc0,rfl⟩
 rintro _ ⟨c,rfl,rfl⟩
 clear wf
 refine u0 ⟨⟨65,[(7,.msl 0 1 0 1)]⟩,[.cells y9 [.msl 1 1 0 c],.row x6 1 (bx (Q6 a0 B c q))]⟩ True (y6 hT ?_) (fun _=>?_)
 ·refine x3 ?_
  refine Q3 (fun n s=>(n=1∧s=⟨⟨65,[(0,.p (.sl 1 (w9 [a0]))),(1,.p (.sl 1 (w9 B))),(6,.p (.box F)),(7,.msl 0 1 0 1),(37,.p (.sl 1 (w9 [a0]))),(38,i64 1),(39,i64 0)]⟩,[.cells y9 [.msl 1 1 0 c],.row x6 1 (bx (Q6 a0 B c 0))]⟩)∨(n=0∧s=⟨⟨65,[(0,.p (.sl 1 (w9 [a0]))),(1,.p (.sl 1 (w9 B))),(6,.p (.box F)),(7,.msl 0 1 0 1),(37,.p (.sl 1 (w9 [a0]))),(38,i64 1),(39,i64 1)]⟩,[.cells y9 [.msl 1 1 0 c],.row x6 1 (bx (Q6 a0 B c q))]⟩)) 1 ⟨⟨65,_⟩,_⟩ (z8 [0,1] [0,1,6,7,37,38,39] rfl) (.inl ⟨rfl,by rw[q4t a0 B c 0];rfl⟩) ?_
  rintro n s (⟨rfl,rfl⟩|⟨rfl,rfl⟩)
  ·refine y6 hT ?_
   refine u6 (y8 ?_)
   refine x7 ?_
   refine u0 ⟨⟨65,[(0,.p (.sl 1 (w9 [a0]))),(1,.p (.sl 1 (w9 B))),(6,.p (.box F)),(7,.msl 0 1 0 1),(37,.p (.sl 1 (w9 [a0]))),(38,i64 1),(8,i64 0),(39,i64 0)]⟩,[.cells y9 [.msl 1 1 0 c],.row x6 1 (bx (Q6 a0 B c q))]⟩ True (x3 ?_) (fun _=>?_)
   ·refine y6 hT ?_
    refine⟨by decide,Z2 rfl ?_⟩
    refine y6 hT ?_
    refine x3 ?_
    refine Q3 (fun n s=>∃ (k:Nat) (j:Int),n+k=q∧j=k∧s=⟨⟨65,[(0,.p (.sl 1 (w9 [a0]))),(1,.p (.sl 1 (w9 B))),(6,.p (.box F)),(7,.msl 0 1 0 1),(37,.p (.sl 1 (w9 [a0]))),(38,i64 1),(8,i64 0),(39,i64 0),(44,bA a0),(45,i64 (bx a0).length),(46,i64 j)]⟩,[.cells y9 [.msl 1 1 0 c],.row x6 1 (bx (Q6 a0 B c k))]⟩) q ⟨⟨65,_⟩,_⟩ (z8 [0,1] [0,1,6,7,37,38,8,39,44,45,46] rfl) ⟨0,0,by omega,rfl,rfl⟩ ?_
    rintro n2 s ⟨k,j,hnk,hj,rfl⟩
    refine y6 hT ?_
    refine u6 (y8 (u9 (fun h=>?_) (fun h=>?_)))
    ·have h:=k0z (show decide (j<(((bx a0).length:Nat):Int))=true from h)
     have hk:k<a0.length:=by omega
     have hkB:k<B.length:=by omega
     refine x7 ?_
     have hxa:=k0w hk
     have hxb:=k0w hkB
     have hst:=U4 c hxa hxb
     have hlb:=hBc _ (k1w hkB)
     generalize a0[k]=x at hxa hst
     generalize B[k]=b at hxb hst hlb
     have hxp:(bx a0)[j.toNat]?=some [u8 x]:=by rw[hj,k0u];exact W6 hxa
     have hbp:(w9 B)[j.toNat]?=some [bP b]:=by rw[hj,k0u];exact Y5 hxb
     have hml:=X3 (B:=B) a0 hBc (k:=k) (by omega)
     have w:=wadd (Q6 a0 B c k) b x hml hlb
     rw[hml,← hst]at w
     refine u0 ⟨⟨65,[(0,.p (.sl 1 (w9 [a0]))),(1,.p (.sl 1 (w9 B))),(6,.p (.box F)),(7,.msl 0 1 0 1),(37,.p (.sl 1 (w9 [a0]))),(38,i64 1),(8,i64 0),(39,i64 0),(44,bA a0),(45,i64 (bx a0).length),(46,i64 j)]⟩,[.cells y9 [.msl 1 1 0 c],.row x6 1 (bx (Q6 a0 B c (k+1)))]⟩ True (x3 (y6 hT ?_)) (fun _=>?_)
     ·refine⟨by omega,Z2 hxp ?_⟩
      refine Z0 [10] [] hT u7 (by rfl) ?_
      refine⟨by decide,?_⟩
      refine⟨by omega,Z2 hbp ?_⟩
      refine⟨_,_,Z7 [1] w rfl rfl rfl,?_⟩
      repeat first|refine⟨rfl,?_⟩|refine⟨⟨by decide,rfl⟩,?_⟩|refine⟨⟨by omega,Z2 hbp rfl⟩,?_⟩
      exact⟨z8 [0,1] [0,1,6,7,37,38,8,39,44,45,46] rfl,trivial⟩
     ·refine y7 hT ?_
      exact⟨n2 - 1,by omega,_,z8 [0,1] [0,1,6,7,37,38,8,39,44,45,46] rfl,k+1,IntKind.i64.wrap (j+1),by omega,by rw[Q0 _ (by omega) (by omega)];omega,rfl⟩
    ·have h:=k0y (show decide (j<(((bx a0).length:Nat):Int))=false from h)
     rw[show k=q by omega]
     refine Q7 ?_
     exact⟨z8 [0,1] [0,1,6,7,37,38,8,39] rfl,trivial⟩
   ·refine y7 hT ?_
    exact⟨0,by decide,_,z8 [0,1] [0,1,6,7,37,38,39] rfl,(.inr ⟨rfl,rfl⟩)⟩
  ·refine y6 hT ?_
   refine u6 (y8 ?_)
   refine Q7 ?_
   exact⟨z8 [0,1] [7] rfl,trivial⟩
 refine y6 hT ?_
 refine u5 ?_
 exact x8 [0,1] ⟨rfl,rfl⟩ rfl
theorem w8y (a0:x9)(B:List x9)(q c:Nat)(q1:1≤q)(q2:q≤64)(c1:1≤c)(c2:c≤4096)(hA:∀ s∈([a0]:List x9),s.length=q)(hB:B.length=q)(hBc:∀ s∈B,s.length=c) :
 AF k0q q0r [.p (.sl 1 (w9 [a0])),.p (.sl 1 (w9 B))] [] (Q9 (.tup [.msl 0 1 0 1,i64 0]) [.row y9 1 (w9 [Q6 a0 B c q])]):=by
 refine y7k (M:=fun i=>([Q6 a0 B c q]:List x9).getD i []) (n:=c) (fun i hi=>?_) (w8x a0 B q c q1 q2 c1 c2 hA hB hBc)
 have:i=0:=by omega
 rcases this with rfl <;> exact X3 _ hBc (by omega)
theorem w8z (a0 a1:x9)(B:List x9)(q c:Nat)(q1:1≤q)(q2:q≤64)(c1:1≤c)(c2:c≤4096)(hA:∀ s∈([a0,a1]:List x9),s.length=q)(hB:B.length=q)(hBc:∀ s∈B,s.length=c) :
 AF k0q q0r [.p (.sl 1 (w9 [a0,a1])),.p (.sl 1 (w9 B))] [] (Q9 (.tup [.msl 0 1 0 2,i64 0]) [.cells y9 [.msl 1 1 0 c,.msl 2 1 0 c],.row x6 1 (bx (Q6 a0 B c q)),.row x6 1 (bx (Q6 a1 B c q))]):=by
 have wA:=q0i [a0,a1] q (show 1≤2 by decide) (show 2≤64 by decide) q1 (by omega) hA
 have wB:=q0i B c (by omega) (by omega) c1 c2 hBc
 have wn:=q4p
 have hcl:=Y6 B
 have h0:=k0w (show 0<B.length by omega)
 have hc0:=hBc _ (k1w (show 0<B.length by omega))
 generalize B[0]=b0 at h0 hc0
 have hx0:(w9 B)[(0:Int).toNat]?=some [bP b0]:=Y5 h0
 have hb0:=Z1 b0
 have wf:=z4g q1i (bx b0).length (by omega) (fun _ _=>0) (fun i k _ _=>q4s i k)
 have ha0:a0.length=q:=hA a0 (by simp)
 have hx10:=Z1 a0
 have ha1:a1.length=q:=hA a1 (by simp)
 have hx11:=Z1 a1
 have wadd:=fun(to row:x9) (x:UInt8) (ht:to.length=c) (hr:row.length=c)=>q7a to row x (by omega) (by omega)
 unfold q3x at wn wadd
 generalize fP=F at wn wadd
 refine Q8 hT Tryz.func164 rfl rfl Tryz.ntmps164 rfl ?_
 refine y6 hT ?_
 refine u0 ⟨⟨65,[(0,.p (.sl 1 (w9 [a0,a1]))),(1,.p (.sl 1 (w9 B)))]⟩,[]⟩ True (y6 hT ?_) (fun _=>?_)
 ·refine Q1 (Q5 wA _ rfl rfl) ?_
  refine Q1 (Q5 wB _ rfl rfl) ?_
  refine⟨by decide,Z2 rfl ?_⟩
  refine y8 (u9 (fun h=>?_) (fun h=>?_))
  ·have h:((((bx a0).length:Nat):Int) != (((w9 B).length:Nat):Int))=true:=h
   rw[bne_iff_ne]at h
   omega
  exact x7 ⟨z8 [] [0,1] rfl,trivial⟩
 refine y6 hT ?_
 refine Q1 (Q5 wn _ rfl rfl) ?_
 refine Q4 (fun st=>∃ c',c'=c∧st=⟨⟨65,[(0,.p (.sl 1 (w9 [a0,a1]))),(1,.p (.sl 1 (w9 B))),(6,.p (.box F)),(7,.msl 0 1 0 2)]⟩,[.cells y9 [.msl 1 1 0 c',.msl 2 1 0 c'],.row x6 1 (bx (Z5 (fun _ _=>0) c' 0)),.row x6 1 (bx (Z5 (fun _ _=>0) c' 1))]⟩) (y7 hT ?_) ?_
 ·refine⟨by decide,Z2 hx0 ?_⟩
  refine Q1 wf ?_
  exact⟨_,z8 [0,1,2] [0,1,6,7] rfl,_,hb0.trans hc0,rfl⟩
 rintro _ ⟨c,rfl,rfl⟩
 clear wf
 refine u0 ⟨⟨65,[(7,.msl 0 1 0 2)]⟩,[.cells y9 [.msl 1 1 0 c,.msl 2 1 0 c],.row x6 1 (bx (Q6 a0 B c q)),.row x6 1 (bx (Q6 a1 B c q))]⟩ True (y6 hT ?_) (fun _=>?_)
 ·refine x3 ?_
  refine Q3 (fun n s=>(n=2∧s=⟨⟨65,[(0,.p (.sl 1 (w9 [a0,a1]))),(1,.p (.sl 1 (w9 B))),(6,.p (.box F)),(7,.msl 0 1 0 2),(37,.p (.sl 1 (w9 [a0,a1]))),(38,i64 2),(39,i64 0)]⟩,[.cells y9 [.msl 1 1 0 c,.msl 2 1 0 c],.row x6 1 (bx (Q6 a0 B c 0)),.row x6 1 (bx (Q6 a1 B c 0))]⟩)∨(n=1∧s=⟨⟨65,[(0,.p (.sl 1 (w9 [a0,a1]))),(1,.p (.sl 1 (w9 B))),(6,.p (.box F)),(7,.msl 0 1 0 2),(37,.p (.sl 1 (w9 [a0,a1]))),(38,i64 2),(39,i64 1)]⟩,[.cells y9 [.msl 1 1 0 c,.msl 2 1 0 c],.row x6 1 (bx (Q6 a0 B c q)),.row x6 1 (bx (Q6 a1 B c 0))]⟩)∨(n=0∧s=⟨⟨65,[(0,.p (.sl 1 (w9 [a0,a1]))),(1,.p (.sl 1 (w9 B))),(6,.p (.box F)),(7,.msl 0 1 0 2),(37,.p (.sl 1 (w9 [a0,a1]))),(38,i64 2),(39,i64 2)]⟩,[.cells y9 [.msl 1 1 0 c,.msl 2 1 0 c],.row x6 1 (bx (Q6 a0 B c q)),.row x6 1 (bx (Q6 a1 B c q))]⟩)) 2 ⟨⟨65,_⟩,_⟩ (z8 [0,1,2] [0,1,6,7,37,38,39] rfl) (.inl ⟨rfl,by rw[q4t a0 B c 0,q4t a1 B c 1];rfl⟩) ?_
  rintro n s (⟨rfl,rfl⟩|⟨rfl,rfl⟩|⟨rfl,rfl⟩)
  ·refine y6 hT ?_
   refine u6 (y8 ?_)
   refine x7 ?_
   refine u0 ⟨⟨65,[(0,.p (.sl 1 (w9 [a0,a1]))),(1,.p (.sl 1 (w9 B))),(6,.p (.box F)),(7,.msl 0 1 0 2),(37,.p (.sl 1 (w9 [a0,a1]))),(38,i64 2),(8,i64 0),(39,i64 0)]⟩,[.cells y9 [.msl 1 1 0 c,.msl 2 1 0 c],.row x6 1 (bx (Q6 a0 B c q)),.row x6 1 (bx (Q6 a1 B c 0))]⟩ True (x3 ?_) (fun _=>?_)
   ·refine y6 hT ?_
    refine⟨by decide,Z2 rfl ?_⟩
    refine y6 hT ?_
    refine x3 ?_
    refine Q3 (fun n s=>∃ (k:Nat) (j:Int),n+k=q∧j=k∧s=⟨⟨65,[(0,.p (.sl 1 (w9 [a0,a1]))),(1,.p (.sl 1 (w9 B))),(6,.p (.box F)),(7,.msl 0 1 0 2),(37,.p (.sl 1 (w9 [a0,a1]))),(38,i64 2),(8,i64 0),(39,i64 0),(44,bA a0),(45,i64 (bx a0).length),(46,i64 j)]⟩,[.cells y9 [.msl 1 1 0 c,.msl 2 1 0 c],.row x6 1 (bx (Q6 a0 B c k)),.row x6 1 (bx (Q6 a1 B c 0))]⟩) q ⟨⟨65,_⟩,_⟩ (z8 [0,1,2] [0,1,6,7,37,38,8,39,44,45,46] rfl) ⟨0,0,by omega,rfl,rfl⟩ ?_
    rintro n2 s ⟨k,j,hnk,hj,rfl⟩
    refine y6 hT ?_
    refine u6 (y8 (u9 (fun h=>?_) (fun h=>?_)))
    ·have h:=k0z (show decide (j<(((bx a0).length:Nat):Int))=true from h)
     have hk:k<a0.length:=by omega
     have hkB:k<B.length:=by omega
     refine x7 ?_
     have hxa:=k0w hk
     have hxb:=k0w hkB
     have hst:=U4 c hxa hxb
     have hlb:=hBc _ (k1w hkB)
     generalize a0[k]=x at hxa hst
     generalize B[k]=b at hxb hst hlb
     have hxp:(bx a0)[j.toNat]?=some [u8 x]:=by rw[hj,k0u];exact W6 hxa
     have hbp:(w9 B)[j.toNat]?=some [bP b]:=by rw[hj,k0u];exact Y5 hxb
     have hml:=X3 (B:=B) a0 hBc (k:=k) (by omega)
     have w:=wadd (Q6 a0 B c k) b x hml hlb
     rw[hml,← hst]at w
     refine u0 ⟨⟨65,[(0,.p (.sl 1 (w9 [a0,a1]))),(1,.p (.sl 1 (w9 B))),(6,.p (.box F)),(7,.msl 0 1 0 2),(37,.p (.sl 1 (w9 [a0,a1]))),(38,i64 2),(8,i64 0),(39,i64 0),(44,bA a0),(45,i64 (bx a0).length),(46,i64 j)]⟩,[.cells y9 [.msl 1 1 0 c,.msl 2 1 0 c],.row x6 1 (bx (Q6 a0 B c (k+1))),.row x6 1 (bx (Q6 a1 B c 0))]⟩ True (x3 (y6 hT ?_)) (fun _=>?_)
     ·refine⟨by omega,Z2 hxp ?_⟩
      refine Z0 [10] [] hT u7 (by rfl) ?_
      refine⟨by decide,?_⟩
      refine⟨by omega,Z2 hbp ?_⟩
      refine⟨_,_,Z7 [1] w rfl rfl rfl,?_⟩
      repeat first|refine⟨rfl,?_⟩|refine⟨⟨by decide,rfl⟩,?_⟩|refine⟨⟨by omega,Z2 hbp rfl⟩,?_⟩
      exact⟨z8 [0,1,2] [0,1,6,7,37,38,8,39,44,45,46] rfl,trivial⟩
     ·refine y7 hT ?_
      exact⟨n2 - 1,by omega,_,z8 [0,1,2] [0,1,6,7,37,38,8,39,44,45,46] rfl,k+1,IntKind.i64.wrap (j+1),by omega,by rw[Q0 _ (by omega) (by omega)];omega,rfl⟩
    ·have h:=k0y (show decide (j<(((bx a0).length:Nat):Int))=false from h)
     rw[show k=q by omega]
     refine Q7 ?_
     exact⟨z8 [0,1,2] [0,1,6,7,37,38,8,39] rfl,trivial⟩
   ·refine y7 hT ?_
    exact⟨1,by decide,_,z8 [0,1,2] [0,1,6,7,37,38,39] rfl,(.inr (.inl ⟨rfl,rfl⟩))⟩
  ·refine y6 hT ?_
   refine u6 (y8 ?_)
   refine x7 ?_
   refine u0 ⟨⟨65,[(0,.p (.sl 1 (w9 [a0,a1]))),(1,.p (.sl 1 (w9 B))),(6,.p (.box F)),(7,.msl 0 1 0 2),(37,.p (.sl 1 (w9 [a0,a1]))),(38,i64 2),(8,i64 1),(39,i64 1)]⟩,[.cells y9 [.msl 1 1 0 c,.msl 2 1 0 c],.row x6 1 (bx (Q6 a0 B c q)),.row x6 1 (bx (Q6 a1 B c q))]⟩ True (x3 ?_) (fun _=>?_)
   ·refine y6 hT ?_
    refine⟨by decide,Z2 rfl ?_⟩
    refine y6 hT ?_
    refine x3 ?_
    refine Q3 (fun n s=>∃ (k:Nat) (j:Int),n+k=q∧j=k∧s=⟨⟨65,[(0,.p (.sl 1 (w9 [a0,a1]))),(1,.p (.sl 1 (w9 B))),(6,.p (.box F)),(7,.msl 0 1 0 2),(37,.p (.sl 1 (w9 [a0,a1]))),(38,i64 2),(8,i64 1),(39,i64 1),(44,bA a1),(45,i64 (bx a1).length),(46,i64 j)]⟩,[.cells y9 [.msl 1 1 0 c,.msl 2 1 0 c],.row x6 1 (bx (Q6 a0 B c q)),.row x6 1 (bx (Q6 a1 B c k))]⟩) q ⟨⟨65,_⟩,_⟩ (z8 [0,1,2] [0,1,6,7,37,38,8,39,44,45,46] rfl) ⟨0,0,by omega,rfl,rfl⟩ ?_
    rintro n2 s ⟨k,j,hnk,hj,rfl⟩
    refine y6 hT ?_
    refine u6 (y8 (u9 (fun h=>?_) (fun h=>?_)))
    ·have h:=k0z (show decide (j<(((bx a1).length:Nat):Int))=true from h)
     have hk:k<a1.length:=by omega
     have hkB:k<B.length:=by omega
     refine x7 ?_
     have hxa:=k0w hk
     have hxb:=k0w hkB
     have hst:=U4 c hxa hxb
     have hlb:=hBc _ (k1w hkB)
     generalize a1[k]=x at hxa hst
     generalize B[k]=b at hxb hst hlb
     have hxp:(bx a1)[j.toNat]?=some [u8 x]:=by rw[hj,k0u];exact W6 hxa
     have hbp:(w9 B)[j.toNat]?=some [bP b]:=by rw[hj,k0u];exact Y5 hxb
     have hml:=X3 (B:=B) a1 hBc (k:=k) (by omega)
     have w:=wadd (Q6 a1 B c k) b x hml hlb
     rw[hml,← hst]at w
     refine u0 ⟨⟨65,[(0,.p (.sl 1 (w9 [a0,a1]))),(1,.p (.sl 1 (w9 B))),(6,.p (.box F)),(7,.msl 0 1 0 2),(37,.p (.sl 1 (w9 [a0,a1]))),(38,i64 2),(8,i64 1),(39,i64 1),(44,bA a1),(45,i64 (bx a1).length),(46,i64 j)]⟩,[.cells y9 [.msl 1 1 0 c,.msl 2 1 0 c],.row x6 1 (bx (Q6 a0 B c q)),.row x6 1 (bx (Q6 a1 B c (k+1)))]⟩ True (x3 (y6 hT ?_)) (fun _=>?_)
     ·refine⟨by omega,Z2 hxp ?_⟩
      refine Z0 [10] [] hT u7 (by rfl) ?_
      refine⟨by decide,?_⟩
      refine⟨by omega,Z2 hbp ?_⟩
      refine⟨_,_,Z7 [2] w rfl rfl rfl,?_⟩
      repeat first|refine⟨rfl,?_⟩|refine⟨⟨by decide,rfl⟩,?_⟩|refine⟨⟨by omega,Z2 hbp rfl⟩,?_⟩
      exact⟨z8 [0,1,2] [0,1,6,7,37,38,8,39,44,45,46] rfl,trivial⟩
     ·refine y7 hT ?_
      exact⟨n2 - 1,by omega,_,z8 [0,1,2] [0,1,6,7,37,38,8,39,44,45,46] rfl,k+1,IntKind.i64.wrap (j+1),by omega,by rw[Q0 _ (by omega) (by omega)];omega,rfl⟩
    ·have h:=k0y (show decide (j<(((bx a1).length:Nat):Int))=false from h)
     rw[show k=q by omega]
     refine Q7 ?_
     exact⟨z8 [0,1,2] [0,1,6,7,37,38,8,39] rfl,trivial⟩
   ·refine y7 hT ?_
    exact⟨0,by decide,_,z8 [0,1,2] [0,1,6,7,37,38,39] rfl,(.inr (.inr ⟨rfl,rfl⟩))⟩
  ·refine y6 hT ?_
   refine u6 (y8 ?_)
   refine Q7 ?_
   exact⟨z8 [0,1,2] [7] rfl,trivial⟩
 refine y6 hT ?_
 refine u5 ?_
 exact x8 [0,1,2] ⟨rfl,rfl⟩ rfl
theorem w9a (a0 a1:x9)(B:List x9)(q c:Nat)(q1:1≤q)(q2:q≤64)(c1:1≤c)(c2:c≤4096)(hA:∀ s∈([a0,a1]:List x9),s.length=q)(hB:B.length=q)(hBc:∀ s∈B,s.length=c) :
 AF k0q q0r [.p (.sl 1 (w9 [a0,a1])),.p (.sl 1 (w9 B))] [] (Q9 (.tup [.msl 0 1 0 2,i64 0]) [.row y9 1 (w9 [Q6 a0 B c q,Q6 a1 B c q])]):=by
 refine y7m (M:=fun i=>([Q6 a0 B c q,Q6 a1 B c q]:List x9).getD i []) (n:=c) (fun i hi=>?_) (w8z a0 a1 B q c q1 q2 c1 c2 hA hB hBc)
 have:i=0∨i=1:=by omega
 rcases this with rfl|rfl <;> exact X3 _ hBc (by omega)
theorem w9b (a0 a1 a2:x9)(B:List x9)(q c:Nat)(q1:1≤q)(q2:q≤64)(c1:1≤c)(c2:c≤4096)(hA:∀ s∈([a0,a1,a2]:List x9),s.length=q)(hB:B.length=q)(hBc:∀ s∈B,s.length=c) :
 AF k0q q0r [.p (.sl 1 (w9 [a0,a1,a2])),.p (.sl 1 (w9 B))] [] (Q9 (.tup [.msl 0 1 0 3,i64 0]) [.cells y9 [.msl 1 1 0 c,.msl 2 1 0 c,.msl 3 1 0 c],.row x6 1 (bx (Q6 a0 B c q)),.row x6 1 (bx (Q6 a1 B c q)),.row x6 1 (bx (Q6 a2 B c q))]):=by
 have wA:=q0i [a0,a1,a2] q (show 1≤3 by decide) (show 3≤64 by decide) q1 (by omega) hA
 have wB:=q0i B c (by omega) (by omega) c1 c2 hBc
 have wn:=q4p
 have hcl:=Y6 B
 have h0:=k0w (show 0<B.length by omega)
 have hc0:=hBc _ (k1w (show 0<B.length by omega))
 generalize B[0]=b0 at h0 hc0
 have hx0:(w9 B)[(0:Int).toNat]?=some [bP b0]:=Y5 h0
 have hb0:=Z1 b0
 have wf:=z4h q1i (bx b0).length (by omega) (fun _ _=>0) (fun i k _ _=>q4s i k)
 have ha0:a0.length=q:=hA a0 (by simp)
 have hx10:=Z1 a0
 have ha1:a1.length=q:=hA a1 (by simp)
 have hx11:=Z1 a1
 have ha2:a2.length=q:=hA a2 (by simp)
 have hx12:=Z1 a2
 have wadd:=fun(to row:x9) (x:UInt8) (ht:to.length=c) (hr:row.length=c)=>q7a to row x (by omega) (by omega)
 unfold q3x at wn wadd
 generalize fP=F at wn wadd
 refine Q8 hT Tryz.func164 rfl rfl Tryz.ntmps164 rfl ?_
 refine y6 hT ?_
 refine u0 ⟨⟨65,[(0,.p (.sl 1 (w9 [a0,a1,a2]))),(1,.p (.sl 1 (w9 B)))]⟩,[]⟩ True (y6 hT ?_) (fun _=>?_)
 ·refine Q1 (Q5 wA _ rfl rfl) ?_
  refine Q1 (Q5 wB _ rfl rfl) ?_
  refine⟨by decide,Z2 rfl ?_⟩
  refine y8 (u9 (fun h=>?_) (fun h=>?_))
  ·have h:((((bx a0).length:Nat):Int) != (((w9 B).length:Nat):Int))=true:=h
   rw[bne_iff_ne]at h
   omega
  exact x7 ⟨z8 [] [0,1] rfl,trivial⟩
 refine y6 hT ?_
 refine Q1 (Q5 wn _ rfl rfl) ?_
 refine Q4 (fun st=>∃ c',c'=c∧st=⟨⟨65,[(0,.p (.sl 1 (w9 [a0,a1,a2]))),(1,.p (.sl 1 (w9 B))),(6,.p (.box F)),(7,.msl 0 1 0 3)]⟩,[.cells y9 [.msl 1 1 0 c',.msl 2 1 0 c',.msl 3 1 0 c'],.row x6 1 (bx (Z5 (fun _ _=>0) c' 0)),.row x6 1 (bx (Z5 (fun _ _=>0) c' 1)),.row x6 1 (bx (Z5 (fun _ _=>0) c' 2))]⟩) (y7 hT ?_) ?_
 ·refine⟨by decide,Z2 hx0 ?_⟩
  refine Q1 wf ?_
  exact⟨_,z8 [0,1,2,3] [0,1,6,7] rfl,_,hb0.trans hc0,rfl⟩
 rintro _ ⟨c,rfl,rfl⟩
 clear wf
 refine u0 ⟨⟨65,[(7,.msl 0 1 0 3)]⟩,[.cells y9 [.msl 1 1 0 c,.msl 2 1 0 c,.msl 3 1 0 c],.row x6 1 (bx (Q6 a0 B c q)),.row x6 1 (bx (Q6 a1 B c q)),.row x6 1 (bx (Q6 a2 B c q))]⟩ True (y6 hT ?_) (fun _=>?_)
 ·refine x3 ?_
  refine Q3 (fun n s=>(n=3∧s=⟨⟨65,[(0,.p (.sl 1 (w9 [a0,a1,a2]))),(1,.p (.sl 1 (w9 B))),(6,.p (.box F)),(7,.msl 0 1 0 3),(37,.p (.sl 1 (w9 [a0,a1,a2]))),(38,i64 3),(39,i64 0)]⟩,[.cells y9 [.msl 1 1 0 c,.msl 2 1 0 c,.msl 3 1 0 c],.row x6 1 (bx (Q6 a0 B c 0)),.row x6 1 (bx (Q6 a1 B c 0)),.row x6 1 (bx (Q6 a2 B c 0))]⟩)∨(n=2∧s=⟨⟨65,[(0,.p (.sl 1 (w9 [a0,a1,a2]))),(1,.p (.sl 1 (w9 B))),(6,.p (.box F)),(7,.msl 0 1 0 3),(37,.p (.sl 1 (w9 [a0,a1,a2]))),(38,i64 3),(39,i64 1)]⟩,[.cells y9 [.msl 1 1 0 c,.msl 2 1 0 c,.msl 3 1 0 c],.row x6 1 (bx (Q6 a0 B c q)),.row x6 1 (bx (Q6 a1 B c 0)),.row x6 1 (bx (Q6 a2 B c 0))]⟩)∨(n=1∧s=⟨⟨65,[(0,.p (.sl 1 (w9 [a0,a1,a2]))),(1,.p (.sl 1 (w9 B))),(6,.p (.box F)),(7,.msl 0 1 0 3),(37,.p (.sl 1 (w9 [a0,a1,a2]))),(38,i64 3),(39,i64 2)]⟩,[.cells y9 [.msl 1 1 0 c,.msl 2 1 0 c,.msl 3 1 0 c],.row x6 1 (bx (Q6 a0 B c q)),.row x6 1 (bx (Q6 a1 B c q)),.row x6 1 (bx (Q6 a2 B c 0))]⟩)∨(n=0∧s=⟨⟨65,[(0,.p (.sl 1 (w9 [a0,a1,a2]))),(1,.p (.sl 1 (w9 B))),(6,.p (.box F)),(7,.msl 0 1 0 3),(37,.p (.sl 1 (w9 [a0,a1,a2]))),(38,i64 3),(39,i64 3)]⟩,[.cells y9 [.msl 1 1 0 c,.msl 2 1 0 c,.msl 3 1 0 c],.row x6 1 (bx (Q6 a0 B c q)),.row x6 1 (bx (Q6 a1 B c q)),.row x6 1 (bx (Q6 a2 B c q))]⟩)) 3 ⟨⟨65,_⟩,_⟩ (z8 [0,1,2,3] [0,1,6,7,37,38,39] rfl) (.inl ⟨rfl,by rw[q4t a0 B c 0,q4t a1 B c 1,q4t a2 B c 2];rfl⟩) ?_
  rintro n s (⟨rfl,rfl⟩|⟨rfl,rfl⟩|⟨rfl,rfl⟩|⟨rfl,rfl⟩)
  ·refine y6 hT ?_
   refine u6 (y8 ?_)
   refine x7 ?_
   refine u0 ⟨⟨65,[(0,.p (.sl 1 (w9 [a0,a1,a2]))),(1,.p (.sl 1 (w9 B))),(6,.p (.box F)),(7,.msl 0 1 0 3),(37,.p (.sl 1 (w9 [a0,a1,a2]))),(38,i64 3),(8,i64 0),(39,i64 0)]⟩,[.cells y9 [.msl 1 1 0 c,.msl 2 1 0 c,.msl 3 1 0 c],.row x6 1 (bx (Q6 a0 B c q)),.row x6 1 (bx (Q6 a1 B c 0)),.row x6 1 (bx (Q6 a2 B c 0))]⟩ True (x3 ?_) (fun _=>?_)
   ·refine y6 hT ?_
    refine⟨by decide,Z2 rfl ?_⟩
    refine y6 hT ?_
    refine x3 ?_
    refine Q3 (fun n s=>∃ (k:Nat) (j:Int),n+k=q∧j=k∧s=⟨⟨65,[(0,.p (.sl 1 (w9 [a0,a1,a2]))),(1,.p (.sl 1 (w9 B))),(6,.p (.box F)),(7,.msl 0 1 0 3),(37,.p (.sl 1 (w9 [a0,a1,a2]))),(38,i64 3),(8,i64 0),(39,i64 0),(44,bA a0),(45,i64 (bx a0).length),(46,i64 j)]⟩,[.cells y9 [.msl 1 1 0 c,.msl 2 1 0 c,.msl 3 1 0 c],.row x6 1 (bx (Q6 a0 B c k)),.row x6 1 (bx (Q6 a1 B c 0)),.row x6 1 (bx (Q6 a2 B c 0))]⟩) q ⟨⟨65,_⟩,_⟩ (z8 [0,1,2,3] [0,1,6,7,37,38,8,39,44,45,46] rfl) ⟨0,0,by omega,rfl,rfl⟩ ?_
    rintro n2 s ⟨k,j,hnk,hj,rfl⟩
    refine y6 hT ?_
    refine u6 (y8 (u9 (fun h=>?_) (fun h=>?_)))
    ·have h:=k0z (show decide (j<(((bx a0).length:Nat):Int))=true from h)
     have hk:k<a0.length:=by omega
     have hkB:k<B.length:=by omega
     refine x7 ?_
     have hxa:=k0w hk
     have hxb:=k0w hkB
     have hst:=U4 c hxa hxb
     have hlb:=hBc _ (k1w hkB)
     generalize a0[k]=x at hxa hst
     generalize B[k]=b at hxb hst hlb
     have hxp:(bx a0)[j.toNat]?=some [u8 x]:=by rw[hj,k0u];exact W6 hxa
     have hbp:(w9 B)[j.toNat]?=some [bP b]:=by rw[hj,k0u];exact Y5 hxb
     have hml:=X3 (B:=B) a0 hBc (k:=k) (by omega)
     have w:=wadd (Q6 a0 B c k) b x hml hlb
     rw[hml,← hst]at w
     refine u0 ⟨⟨65,[(0,.p (.sl 1 (w9 [a0,a1,a2]))),(1,.p (.sl 1 (w9 B))),(6,.p (.box F)),(7,.msl 0 1 0 3),(37,.p (.sl 1 (w9 [a0,a1,a2]))),(38,i64 3),(8,i64 0),(39,i64 0),(44,bA a0),(45,i64 (bx a0).length),(46,i64 j)]⟩,[.cells y9 [.msl 1 1 0 c,.msl 2 1 0 c,.msl 3 1 0 c],.row x6 1 (bx (Q6 a0 B c (k+1))),.row x6 1 (bx (Q6 a1 B c 0)),.row x6 1 (bx (Q6 a2 B c 0))]⟩ True (x3 (y6 hT ?_)) (fun _=>?_)
     ·refine⟨by omega,Z2 hxp ?_⟩
      refine Z0 [10] [] hT u7 (by rfl) ?_
      refine⟨by decide,?_⟩
      refine⟨by omega,Z2 hbp ?_⟩
      refine⟨_,_,Z7 [1] w rfl rfl rfl,?_⟩
      repeat first|refine⟨rfl,?_⟩|refine⟨⟨by decide,rfl⟩,?_⟩|refine⟨⟨by omega,Z2 hbp rfl⟩,?_⟩
      exact⟨z8 [0,1,2,3] [0,1,6,7,37,38,8,39,44,45,46] rfl,trivial⟩
     ·refine y7 hT ?_
      exact⟨n2 - 1,by omega,_,z8 [0,1,2,3] [0,1,6,7,37,38,8,39,44,45,46] rfl,k+1,IntKind.i64.wrap (j+1),by omega,by rw[Q0 _ (by omega) (by omega)];omega,rfl⟩
    ·have h:=k0y (show decide (j<(((bx a0).length:Nat):Int))=false from h)
     rw[show k=q by omega]
     refine Q7 ?_
     exact⟨z8 [0,1,2,3] [0,1,6,7,37,38,8,39] rfl,trivial⟩
   ·refine y7 hT ?_
    exact⟨2,by decide,_,z8 [0,1,2,3] [0,1,6,7,37,38,39] rfl,(.inr (.inl ⟨rfl,rfl⟩))⟩
  ·refine y6 hT ?_
   refine u6 (y8 ?_)
   refine x7 ?_
   refine u0 ⟨⟨65,[(0,.p (.sl 1 (w9 [a0,a1,a2]))),(1,.p (.sl 1 (w9 B))),(6,.p (.box F)),(7,.msl 0 1 0 3),(37,.p (.sl 1 (w9 [a0,a1,a2]))),(38,i64 3),(8,i64 1),(39,i64 1)]⟩,[.cells y9 [.msl 1 1 0 c,.msl 2 1 0 c,.msl 3 1 0 c],.row x6 1 (bx (Q6 a0 B c q)),.row x6 1 (bx (Q6 a1 B c q)),.row x6 1 (bx (Q6 a2 B c 0))]⟩ True (x3 ?_) (fun _=>?_)
   ·refine y6 hT ?_
    refine⟨by decide,Z2 rfl ?_⟩
    refine y6 hT ?_
    refine x3 ?_
    refine Q3 (fun n s=>∃ (k:Nat) (j:Int),n+k=q∧j=k∧s=⟨⟨65,[(0,.p (.sl 1 (w9 [a0,a1,a2]))),(1,.p (.sl 1 (w9 B))),(6,.p (.box F)),(7,.msl 0 1 0 3),(37,.p (.sl 1 (w9 [a0,a1,a2]))),(38,i64 3),(8,i64 1),(39,i64 1),(44,bA a1),(45,i64 (bx a1).length),(46,i64 j)]⟩,[.cells y9 [.msl 1 1 0 c,.msl 2 1 0 c,.msl 3 1 0 c],.row x6 1 (bx (Q6 a0 B c q)),.row x6 1 (bx (Q6 a1 B c k)),.row x6 1 (bx (Q6 a2 B c 0))]⟩) q ⟨⟨65,_⟩,_⟩ (z8 [0,1,2,3] [0,1,6,7,37,38,8,39,44,45,46] rfl) ⟨0,0,by omega,rfl,rfl⟩ ?_
    rintro n2 s ⟨k,j,hnk,hj,rfl⟩
    refine y6 hT ?_
    refine u6 (y8 (u9 (fun h=>?_) (fun h=>?_)))
    ·have h:=k0z (show decide (j<(((bx a1).length:Nat):Int))=true from h)
     have hk:k<a1.length:=by omega
     have hkB:k<B.length:=by omega
     refine x7 ?_
     have hxa:=k0w hk
     have hxb:=k0w hkB
     have hst:=U4 c hxa hxb
     have hlb:=hBc _ (k1w hkB)
     generalize a1[k]=x at hxa hst
     generalize B[k]=b at hxb hst hlb
     have hxp:(bx a1)[j.toNat]?=some [u8 x]:=by rw[hj,k0u];exact W6 hxa
     have hbp:(w9 B)[j.toNat]?=some [bP b]:=by rw[hj,k0u];exact Y5 hxb
     have hml:=X3 (B:=B) a1 hBc (k:=k) (by omega)
     have w:=wadd (Q6 a1 B c k) b x hml hlb
     rw[hml,← hst]at w
     refine u0 ⟨⟨65,[(0,.p (.sl 1 (w9 [a0,a1,a2]))),(1,.p (.sl 1 (w9 B))),(6,.p (.box F)),(7,.msl 0 1 0 3),(37,.p (.sl 1 (w9 [a0,a1,a2]))),(38,i64 3),(8,i64 1),(39,i64 1),(44,bA a1),(45,i64 (bx a1).length),(46,i64 j)]⟩,[.cells y9 [.msl 1 1 0 c,.msl 2 1 0 c,.msl 3 1 0 c],.row x6 1 (bx (Q6 a0 B c q)),.row x6 1 (bx (Q6 a1 B c (k+1))),.row x6 1 (bx (Q6 a2 B c 0))]⟩ True (x3 (y6 hT ?_)) (fun _=>?_)
     ·refine⟨by omega,Z2 hxp ?_⟩
      refine Z0 [10] [] hT u7 (by rfl) ?_
      refine⟨by decide,?_⟩
      refine⟨by omega,Z2 hbp ?_⟩
      refine⟨_,_,Z7 [2] w rfl rfl rfl,?_⟩
      repeat first|refine⟨rfl,?_⟩|refine⟨⟨by decide,rfl⟩,?_⟩|refine⟨⟨by omega,Z2 hbp rfl⟩,?_⟩
      exact⟨z8 [0,1,2,3] [0,1,6,7,37,38,8,39,44,45,46] rfl,trivial⟩
     ·refine y7 hT ?_
      exact⟨n2 - 1,by omega,_,z8 [0,1,2,3] [0,1,6,7,37,38,8,39,44,45,46] rfl,k+1,IntKind.i64.wrap (j+1),by omega,by rw[Q0 _ (by omega) (by omega)];omega,rfl⟩
    ·have h:=k0y (show decide (j<(((bx a1).length:Nat):Int))=false from h)
     rw[show k=q by omega]
     refine Q7 ?_
     exact⟨z8 [0,1,2,3] [0,1,6,7,37,38,8,39] rfl,trivial⟩
   ·refine y7 hT ?_
    exact⟨1,by decide,_,z8 [0,1,2,3] [0,1,6,7,37,38,39] rfl,(.inr (.inr (.inl ⟨rfl,rfl⟩)))⟩
  ·refine y6 hT ?_
   refine u6 (y8 ?_)
   refine x7 ?_
   refine u0 ⟨⟨65,[(0,.p (.sl 1 (w9 [a0,a1,a2]))),(1,.p (.sl 1 (w9 B))),(6,.p (.box F)),(7,.msl 0 1 0 3),(37,.p (.sl 1 (w9 [a0,a1,a2]))),(38,i64 3),(8,i64 2),(39,i64 2)]⟩,[.cells y9 [.msl 1 1 0 c,.msl 2 1 0 c,.msl 3 1 0 c],.row x6 1 (bx (Q6 a0 B c q)),.row x6 1 (bx (Q6 a1 B c q)),.row x6 1 (bx (Q6 a2 B c q))]⟩ True (x3 ?_) (fun _=>?_)
   ·refine y6 hT ?_
    refine⟨by decide,Z2 rfl ?_⟩
    refine y6 hT ?_
    refine x3 ?_
    refine Q3 (fun n s=>∃ (k:Nat) (j:Int),n+k=q∧j=k∧s=⟨⟨65,[(0,.p (.sl 1 (w9 [a0,a1,a2]))),(1,.p (.sl 1 (w9 B))),(6,.p (.box F)),(7,.msl 0 1 0 3),(37,.p (.sl 1 (w9 [a0,a1,a2]))),(38,i64 3),(8,i64 2),(39,i64 2),(44,bA a2),(45,i64 (bx a2).length),(46,i64 j)]⟩,[.cells y9 [.msl 1 1 0 c,.msl 2 1 0 c,.msl 3 1 0 c],.row x6 1 (bx (Q6 a0 B c q)),.row x6 1 (bx (Q6 a1 B c q)),.row x6 1 (bx (Q6 a2 B c k))]⟩) q ⟨⟨65,_⟩,_⟩ (z8 [0,1,2,3] [0,1,6,7,37,38,8,39,44,45,46] rfl) ⟨0,0,by omega,rfl,rfl⟩ ?_
    rintro n2 s ⟨k,j,hnk,hj,rfl⟩
    refine y6 hT ?_
    refine u6 (y8 (u9 (fun h=>?_) (fun h=>?_)))
    ·have h:=k0z (show decide (j<(((bx a2).length:Nat):Int))=true from h)
     have hk:k<a2.length:=by omega
     have hkB:k<B.length:=by omega
     refine x7 ?_
     have hxa:=k0w hk
     have hxb:=k0w hkB
     have hst:=U4 c hxa hxb
     have hlb:=hBc _ (k1w hkB)
     generalize a2[k]=x at hxa hst
     generalize B[k]=b at hxb hst hlb
     have hxp:(bx a2)[j.toNat]?=some [u8 x]:=by rw[hj,k0u];exact W6 hxa
     have hbp:(w9 B)[j.toNat]?=some [bP b]:=by rw[hj,k0u];exact Y5 hxb
     have hml:=X3 (B:=B) a2 hBc (k:=k) (by omega)
     have w:=wadd (Q6 a2 B c k) b x hml hlb
     rw[hml,← hst]at w
     refine u0 ⟨⟨65,[(0,.p (.sl 1 (w9 [a0,a1,a2]))),(1,.p (.sl 1 (w9 B))),(6,.p (.box F)),(7,.msl 0 1 0 3),(37,.p (.sl 1 (w9 [a0,a1,a2]))),(38,i64 3),(8,i64 2),(39,i64 2),(44,bA a2),(45,i64 (bx a2).length),(46,i64 j)]⟩,[.cells y9 [.msl 1 1 0 c,.msl 2 1 0 c,.msl 3 1 0 c],.row x6 1 (bx (Q6 a0 B c q)),.row x6 1 (bx (Q6 a1 B c q)),.row x6 1 (bx (Q6 a2 B c (k+1)))]⟩ True (x3 (y6 hT ?_)) (fun _=>?_)
     ·refine⟨by omega,Z2 hxp ?_⟩
      refine Z0 [10] [] hT u7 (by rfl) ?_
      refine⟨by decide,?_⟩
      refine⟨by omega,Z2 hbp ?_⟩
      refine⟨_,_,Z7 [3] w rfl rfl rfl,?_⟩
      repeat first|refine⟨rfl,?_⟩|refine⟨⟨by decide,rfl⟩,?_⟩|refine⟨⟨by omega,Z2 hbp rfl⟩,?_⟩
      exact⟨z8 [0,1,2,3] [0,1,6,7,37,38,8,39,44,45,46] rfl,trivial⟩
     ·refine y7 hT ?_
      exact⟨n2 - 1,by omega,_,z8 [0,1,2,3] [0,1,6,7,37,38,8,39,44,45,46] rfl,k+1,IntKind.i64.wrap (j+1),by omega,by rw[Q0 _ (by omega) (by omega)];omega,rfl⟩
    ·have h:=k0y (show decide (j<(((bx a2).length:Nat):Int))=false from h)
     rw[show k=q by omega]
     refine Q7 ?_
     exact⟨z8 [0,1,2,3] [0,1,6,7,37,38,8,39] rfl,trivial⟩
   ·refine y7 hT ?_
    exact⟨0,by decide,_,z8 [0,1,2,3] [0,1,6,7,37,38,39] rfl,(.inr (.inr (.inr ⟨rfl,rfl⟩)))⟩
  ·refine y6 hT ?_
   refine u6 (y8 ?_)
   refine Q7 ?_
   exact⟨z8 [0,1,2,3] [7] rfl,trivial⟩
 refine y6 hT ?_
 refine u5 ?_
 exact x8 [0,1,2,3] ⟨rfl,rfl⟩ rfl
theorem w9c (a0 a1 a2:x9)(B:List x9)(q c:Nat)(q1:1≤q)(q2:q≤64)(c1:1≤c)(c2:c≤4096)(hA:∀ s∈([a0,a1,a2]:List x9),s.length=q)(hB:B.length=q)(hBc:∀ s∈B,s.length=c) :
 AF k0q q0r [.p (.sl 1 (w9 [a0,a1,a2])),.p (.sl 1 (w9 B))] [] (Q9 (.tup [.msl 0 1 0 3,i64 0]) [.row y9 1 (w9 [Q6 a0 B c q,Q6 a1 B c q,Q6 a2 B c q])]):=by
 refine y7n (M:=fun i=>([Q6 a0 B c q,Q6 a1 B c q,Q6 a2 B c q]:List x9).getD i []) (n:=c) (fun i hi=>?_) (w9b a0 a1 a2 B q c q1 q2 c1 c2 hA hB hBc)
 have:i=0∨i=1∨i=2:=by omega
 rcases this with rfl|rfl|rfl <;> exact X3 _ hBc (by omega)
theorem w9d (a0 a1 a2 a3:x9)(B:List x9)(q c:Nat)(q1:1≤q)(q2:q≤64)(c1:1≤c)(c2:c≤4096)(hA:∀ s∈([a0,a1,a2,a3]:List x9),s.length=q)(hB:B.length=q)(hBc:∀ s∈B,s.length=c) :
 AF k0q q0r [.p (.sl 1 (w9 [a0,a1,a2,a3])),.p (.sl 1 (w9 B))] [] (Q9 (.tup [.msl 0 1 0 4,i64 0]) [.cells y9 [.msl 1 1 0 c,.msl 2 1 0 c,.msl 3 1 0 c,.msl 4 1 0 c],.row x6 1 (bx (Q6 a0 B c q)),.row x6 1 (bx (Q6 a1 B c q)),.row x6 1 (bx (Q6 a2 B c q)),.row x6 1 (bx (Q6 a3 B c q))]):=by
 have wA:=q0i [a0,a1,a2,a3] q (show 1≤4 by decide) (show 4≤64 by decide) q1 (by omega) hA
 have wB:=q0i B c (by omega) (by omega) c1 c2 hBc
 have wn:=q4p
 have hcl:=Y6 B
 have h0:=k0w (show 0<B.length by omega)
 have hc0:=hBc _ (k1w (show 0<B.length by omega))
 generalize B[0]=b0 at h0 hc0
 have hx0:(w9 B)[(0:Int).toNat]?=some [bP b0]:=Y5 h0
 have hb0:=Z1 b0
 have wf:=z4i q1i (bx b0).length (by omega) (fun _ _=>0) (fun i k _ _=>q4s i k)
 have ha0:a0.length=q:=hA a0 (by simp)
 have hx10:=Z1 a0
 have ha1:a1.length=q:=hA a1 (by simp)
 have hx11:=Z1 a1
 have ha2:a2.length=q:=hA a2 (by simp)
 have hx12:=Z1 a2
 have ha3:a3.length=q:=hA a3 (by simp)
 have hx13:=Z1 a3
 have wadd:=fun(to row:x9) (x:UInt8) (ht:to.length=c) (hr:row.length=c)=>q7a to row x (by omega) (by omega)
 unfold q3x at wn wadd
 generalize fP=F at wn wadd
 refine Q8 hT Tryz.func164 rfl rfl Tryz.ntmps164 rfl ?_
 refine y6 hT ?_
 refine u0 ⟨⟨65,[(0,.p (.sl 1 (w9 [a0,a1,a2,a3]))),(1,.p (.sl 1 (w9 B)))]⟩,[]⟩ True (y6 hT ?_) (fun _=>?_)
 ·refine Q1 (Q5 wA _ rfl rfl) ?_
  refine Q1 (Q5 wB _ rfl rfl) ?_
  refine⟨by decide,Z2 rfl ?_⟩
  refine y8 (u9 (fun h=>?_) (fun h=>?_))
  ·have h:((((bx a0).length:Nat):Int) != (((w9 B).length:Nat):Int))=true:=h
   rw[bne_iff_ne]at h
   omega
  exact x7 ⟨z8 [] [0,1] rfl,trivial⟩
 refine y6 hT ?_
 refine Q1 (Q5 wn _ rfl rfl) ?_
 refine Q4 (fun st=>∃ c',c'=c∧st=⟨⟨65,[(0,.p (.sl 1 (w9 [a0,a1,a2,a3]))),(1,.p (.sl 1 (w9 B))),(6,.p (.box F)),(7,.msl 0 1 0 4)]⟩,[.cells y9 [.msl 1 1 0 c',.msl 2 1 0 c',.msl 3 1 0 c',.msl 4 1 0 c'],.row x6 1 (bx (Z5 (fun _ _=>0) c' 0)),.row x6 1 (bx (Z5 (fun _ _=>0) c' 1)),.row x6 1 (bx (Z5 (fun _ _=>0) c' 2)),.row x6 1 (bx (Z5 (fun _ _=>0) c' 3))]⟩) (y7 hT ?_) ?_
 ·refine⟨by decide,Z2 hx0 ?_⟩
  refine Q1 wf ?_
  exact⟨_,z8 [0,1,2,3,4] [0,1,6,7] rfl,_,hb0.trans hc0,rfl⟩
 rintro _ ⟨c,rfl,rfl⟩
 clear wf
 refine u0 ⟨⟨65,[(7,.msl 0 1 0 4)]⟩,[.cells y9 [.msl 1 1 0 c,.msl 2 1 0 c,.msl 3 1 0 c,.msl 4 1 0 c],.row x6 1 (bx (Q6 a0 B c q)),.row x6 1 (bx (Q6 a1 B c q)),.row x6 1 (bx (Q6 a2 B c q)),.row x6 1 (bx (Q6 a3 B c q))]⟩ True (y6 hT ?_) (fun _=>?_)
 ·refine x3 ?_
  refine Q3 (fun n s=>(n=4∧s=⟨⟨65,[(0,.p (.sl 1 (w9 [a0,a1,a2,a3]))),(1,.p (.sl 1 (w9 B))),(6,.p (.box F)),(7,.msl 0 1 0 4),(37,.p (.sl 1 (w9 [a0,a1,a2,a3]))),(38,i64 4),(39,i64 0)]⟩,[.cells y9 [.msl 1 1 0 c,.msl 2 1 0 c,.msl 3 1 0 c,.msl 4 1 0 c],.row x6 1 (bx (Q6 a0 B c 0)),.row x6 1 (bx (Q6 a1 B c 0)),.row x6 1 (bx (Q6 a2 B c 0)),.row x6 1 (bx (Q6 a3 B c 0))]⟩)∨(n=3∧s=⟨⟨65,[(0,.p (.sl 1 (w9 [a0,a1,a2,a3]))),(1,.p (.sl 1 (w9 B))),(6,.p (.box F)),(7,.msl 0 1 0 4),(37,.p (.sl 1 (w9 [a0,a1,a2,a3]))),(38,i64 4),(39,i64 1)]⟩,[.cells y9 [.msl 1 1 0 c,.msl 2 1 0 c,.msl 3 1 0 c,.msl 4 1 0 c],.row x6 1 (bx (Q6 a0 B c q)),.row x6 1 (bx (Q6 a1 B c 0)),.row x6 1 (bx (Q6 a2 B c 0)),.row x6 1 (bx (Q6 a3 B c 0))]⟩)∨(n=2∧s=⟨⟨65,[(0,.p (.sl 1 (w9 [a0,a1,a2,a3]))),(1,.p (.sl 1 (w9 B))),(6,.p (.box F)),(7,.msl 0 1 0 4),(37,.p (.sl 1 (w9 [a0,a1,a2,a3]))),(38,i64 4),(39,i64 2)]⟩,[.cells y9 [.msl 1 1 0 c,.msl 2 1 0 c,.msl 3 1 0 c,.msl 4 1 0 c],.row x6 1 (bx (Q6 a0 B c q)),.row x6 1 (bx (Q6 a1 B c q)),.row x6 1 (bx (Q6 a2 B c 0)),.row x6 1 (bx (Q6 a3 B c 0))]⟩)∨(n=1∧s=⟨⟨65,[(0,.p (.sl 1 (w9 [a0,a1,a2,a3]))),(1,.p (.sl 1 (w9 B))),(6,.p (.box F)),(7,.msl 0 1 0 4),(37,.p (.sl 1 (w9 [a0,a1,a2,a3]))),(38,i64 4),(39,i64 3)]⟩,[.cells y9 [.msl 1 1 0 c,.msl 2 1 0 c,.msl 3 1 0 c,.msl 4 1 0 c],.row x6 1 (bx (Q6 a0 B c q)),.row x6 1 (bx (Q6 a1 B c q)),.row x6 1 (bx (Q6 a2 B c q)),.row x6 1 (bx (Q6 a3 B c 0))]⟩)∨(n=0∧s=⟨⟨65,[(0,.p (.sl 1 (w9 [a0,a1,a2,a3]))),(1,.p (.sl 1 (w9 B))),(6,.p (.box F)),(7,.msl 0 1 0 4),(37,.p (.sl 1 (w9 [a0,a1,a2,a3]))),(38,i64 4),(39,i64 4)]⟩,[.cells y9 [.msl 1 1 0 c,.msl 2 1 0 c,.msl 3 1 0 c,.msl 4 1 0 c],.row x6 1 (bx (Q6 a0 B c q)),.row x6 1 (bx (Q6 a1 B c q)),.row x6 1 (bx (Q6 a2 B c q)),.row x6 1 (bx (Q6 a3 B c q))]⟩)) 4 ⟨⟨65,_⟩,_⟩ (z8 [0,1,2,3,4] [0,1,6,7,37,38,39] rfl) (.inl ⟨rfl,by rw[q4t a0 B c 0,q4t a1 B c 1,q4t a2 B c 2,q4t a3 B c 3];rfl⟩) ?_
  rintro n s (⟨rfl,rfl⟩|⟨rfl,rfl⟩|⟨rfl,rfl⟩|⟨rfl,rfl⟩|⟨rfl,rfl⟩)
  ·refine y6 hT ?_
   refine u6 (y8 ?_)
   refine x7 ?_
   refine u0 ⟨⟨65,[(0,.p (.sl 1 (w9 [a0,a1,a2,a3]))),(1,.p (.sl 1 (w9 B))),(6,.p (.box F)),(7,.msl 0 1 0 4),(37,.p (.sl 1 (w9 [a0,a1,a2,a3]))),(38,i64 4),(8,i64 0),(39,i64 0)]⟩,[.cells y9 [.msl 1 1 0 c,.msl 2 1 0 c,.msl 3 1 0 c,.msl 4 1 0 c],.row x6 1 (bx (Q6 a0 B c q)),.row x6 1 (bx (Q6 a1 B c 0)),.row x6 1 (bx (Q6 a2 B c 0)),.row x6 1 (bx (Q6 a3 B c 0))]⟩ True (x3 ?_) (fun _=>?_)
   ·refine y6 hT ?_
    refine⟨by decide,Z2 rfl ?_⟩
    refine y6 hT ?_
    refine x3 ?_
    refine Q3 (fun n s=>∃ (k:Nat) (j:Int),n+k=q∧j=k∧s=⟨⟨65,[(0,.p (.sl 1 (w9 [a0,a1,a2,a3]))),(1,.p (.sl 1 (w9 B))),(6,.p (.box F)),(7,.msl 0 1 0 4),(37,.p (.sl 1 (w9 [a0,a1,a2,a3]))),(38,i64 4),(8,i64 0),(39,i64 0),(44,bA a0),(45,i64 (bx a0).length),(46,i64 j)]⟩,[.cells y9 [.msl 1 1 0 c,.msl 2 1 0 c,.msl 3 1 0 c,.msl 4 1 0 c],.row x6 1 (bx (Q6 a0 B c k)),.row x6 1 (bx (Q6 a1 B c 0)),.row x6 1 (bx (Q6 a2 B c 0)),.row x6 1 (bx (Q6 a3 B c 0))]⟩) q ⟨⟨65,_⟩,_⟩ (z8 [0,1,2,3,4] [0,1,6,7,37,38,8,39,44,45,46] rfl) ⟨0,0,by omega,rfl,rfl⟩ ?_
    rintro n2 s ⟨k,j,hnk,hj,rfl⟩
    refine y6 hT ?_
    refine u6 (y8 (u9 (fun h=>?_) (fun h=>?_)))
    ·have h:=k0z (show decide (j<(((bx a0).length:Nat):Int))=true from h)
     have hk:k<a0.length:=by omega
     have hkB:k<B.length:=by omega
     refine x7 ?_
     have hxa:=k0w hk
     have hxb:=k0w hkB
     have hst:=U4 c hxa hxb
     have hlb:=hBc _ (k1w hkB)
     generalize a0[k]=x at hxa hst
     generalize B[k]=b at hxb hst hlb
     have hxp:(bx a0)[j.toNat]?=some [u8 x]:=by rw[hj,k0u];exact W6 hxa
     have hbp:(w9 B)[j.toNat]?=some [bP b]:=by rw[hj,k0u];exact Y5 hxb
     have hml:=X3 (B:=B) a0 hBc (k:=k) (by omega)
     have w:=wadd (Q6 a0 B c k) b x hml hlb
     rw[hml,← hst]at w
     refine u0 ⟨⟨65,[(0,.p (.sl 1 (w9 [a0,a1,a2,a3]))),(1,.p (.sl 1 (w9 B))),(6,.p (.box F)),(7,.msl 0 1 0 4),(37,.p (.sl 1 (w9 [a0,a1,a2,a3]))),(38,i64 4),(8,i64 0),(39,i64 0),(44,bA a0),(45,i64 (bx a0).length),(46,i64 j)]⟩,[.cells y9 [.msl 1 1 0 c,.msl 2 1 0 c,.msl 3 1 0 c,.msl 4 1 0 c],.row x6 1 (bx (Q6 a0 B c (k+1))),.row x6 1 (bx (Q6 a1 B c 0)),.row x6 1 (bx (Q6 a2 B c 0)),.row x6 1 (bx (Q6 a3 B c 0))]⟩ True (x3 (y6 hT ?_)) (fun _=>?_)
     ·refine⟨by omega,Z2 hxp ?_⟩
      refine Z0 [10] [] hT u7 (by rfl) ?_
      refine⟨by decide,?_⟩
      refine⟨by omega,Z2 hbp ?_⟩
      refine⟨_,_,Z7 [1] w rfl rfl rfl,?_⟩
      repeat first|refine⟨rfl,?_⟩|refine⟨⟨by decide,rfl⟩,?_⟩|refine⟨⟨by omega,Z2 hbp rfl⟩,?_⟩
      exact⟨z8 [0,1,2,3,4] [0,1,6,7,37,38,8,39,44,45,46] rfl,trivial⟩
     ·refine y7 hT ?_
      exact⟨n2 - 1,by omega,_,z8 [0,1,2,3,4] [0,1,6,7,37,38,8,39,44,45,46] rfl,k+1,IntKind.i64.wrap (j+1),by omega,by rw[Q0 _ (by omega) (by omega)];omega,rfl⟩
    ·have h:=k0y (show decide (j<(((bx a0).length:Nat):Int))=false from h)
     rw[show k=q by omega]
     refine Q7 ?_
     exact⟨z8 [0,1,2,3,4] [0,1,6,7,37,38,8,39] rfl,trivial⟩
   ·refine y7 hT ?_
    exact⟨3,by decide,_,z8 [0,1,2,3,4] [0,1,6,7,37,38,39] rfl,(.inr (.inl ⟨rfl,rfl⟩))⟩
  ·refine y6 hT ?_
   refine u6 (y8 ?_)
   refine x7 ?_
   refine u0 ⟨⟨65,[(0,.p (.sl 1 (w9 [a0,a1,a2,a3]))),(1,.p (.sl 1 (w9 B))),(6,.p (.box F)),(7,.msl 0 1 0 4),(37,.p (.sl 1 (w9 [a0,a1,a2,a3]))),(38,i64 4),(8,i64 1),(39,i64 1)]⟩,[.cells y9 [.msl 1 1 0 c,.msl 2 1 0 c,.msl 3 1 0 c,.msl 4 1 0 c],.row x6 1 (bx (Q6 a0 B c q)),.row x6 1 (bx (Q6 a1 B c q)),.row x6 1 (bx (Q6 a2 B c 0)),.row x6 1 (bx (Q6 a3 B c 0))]⟩ True (x3 ?_) (fun _=>?_)
   ·refine y6 hT ?_
    refine⟨by decide,Z2 rfl ?_⟩
    refine y6 hT ?_
    refine x3 ?_
    refine Q3 (fun n s=>∃ (k:Nat) (j:Int),n+k=q∧j=k∧s=⟨⟨65,[(0,.p (.sl 1 (w9 [a0,a1,a2,a3]))),(1,.p (.sl 1 (w9 B))),(6,.p (.box F)),(7,.msl 0 1 0 4),(37,.p (.sl 1 (w9 [a0,a1,a2,a3]))),(38,i64 4),(8,i64 1),(39,i64 1),(44,bA a1),(45,i64 (bx a1).length),(46,i64 j)]⟩,[.cells y9 [.msl 1 1 0 c,.msl 2 1 0 c,.msl 3 1 0 c,.msl 4 1 0 c],.row x6 1 (bx (Q6 a0 B c q)),.row x6 1 (bx (Q6 a1 B c k)),.row x6 1 (bx (Q6 a2 B c 0)),.row x6 1 (bx (Q6 a3 B c 0))]⟩) q ⟨⟨65,_⟩,_⟩ (z8 [0,1,2,3,4] [0,1,6,7,37,38,8,39,44,45,46] rfl) ⟨0,0,by omega,rfl,rfl⟩ ?_
    rintro n2 s ⟨k,j,hnk,hj,rfl⟩
    refine y6 hT ?_
    refine u6 (y8 (u9 (fun h=>?_) (fun h=>?_)))
    ·have h:=k0z (show decide (j<(((bx a1).length:Nat):Int))=true from h)
     have hk:k<a1.length:=by omega
     have hkB:k<B.length:=by omega
     refine x7 ?_
     have hxa:=k0w hk
     have hxb:=k0w hkB
     have hst:=U4 c hxa hxb
     have hlb:=hBc _ (k1w hkB)
     generalize a1[k]=x at hxa hst
     generalize B[k]=b at hxb hst hlb
     have hxp:(bx a1)[j.toNat]?=some [u8 x]:=by rw[hj,k0u];exact W6 hxa
     have hbp:(w9 B)[j.toNat]?=some [bP b]:=by rw[hj,k0u];exact Y5 hxb
     have hml:=X3 (B:=B) a1 hBc (k:=k) (by omega)
     have w:=wadd (Q6 a1 B c k) b x hml hlb
     rw[hml,← hst]at w
     refine u0 ⟨⟨65,[(0,.p (.sl 1 (w9 [a0,a1,a2,a3]))),(1,.p (.sl 1 (w9 B))),(6,.p (.box F)),(7,.msl 0 1 0 4),(37,.p (.sl 1 (w9 [a0,a1,a2,a3]))),(38,i64 4),(8,i64 1),(39,i64 1),(44,bA a1),(45,i64 (bx a1).length),(46,i64 j)]⟩,[.cells y9 [.msl 1 1 0 c,.msl 2 1 0 c,.msl 3 1 0 c,.msl 4 1 0 c],.row x6 1 (bx (Q6 a0 B c q)),.row x6 1 (bx (Q6 a1 B c (k+1))),.row x6 1 (bx (Q6 a2 B c 0)),.row x6 1 (bx (Q6 a3 B c 0))]⟩ True (x3 (y6 hT ?_)) (fun _=>?_)
     ·refine⟨by omega,Z2 hxp ?_⟩
      refine Z0 [10] [] hT u7 (by rfl) ?_
      refine⟨by decide,?_⟩
      refine⟨by omega,Z2 hbp ?_⟩
      refine⟨_,_,Z7 [2] w rfl rfl rfl,?_⟩
      repeat first|refine⟨rfl,?_⟩|refine⟨⟨by decide,rfl⟩,?_⟩|refine⟨⟨by omega,Z2 hbp rfl⟩,?_⟩
      exact⟨z8 [0,1,2,3,4] [0,1,6,7,37,38,8,39,44,45,46] rfl,trivial⟩
     ·refine y7 hT ?_
      exact⟨n2 - 1,by omega,_,z8 [0,1,2,3,4] [0,1,6,7,37,38,8,39,44,45,46] rfl,k+1,IntKind.i64.wrap (j+1),by omega,by rw[Q0 _ (by omega) (by omega)];omega,rfl⟩
    ·have h:=k0y (show decide (j<(((bx a1).length:Nat):Int))=false from h)
     rw[show k=q by omega]
     refine Q7 ?_
     exact⟨z8 [0,1,2,3,4] [0,1,6,7,37,38,8,39] rfl,trivial⟩
   ·refine y7 hT ?_
    exact⟨2,by decide,_,z8 [0,1,2,3,4] [0,1,6,7,37,38,39] rfl,(.inr (.inr (.inl ⟨rfl,rfl⟩)))⟩
  ·refine y6 hT ?_
   refine u6 (y8 ?_)
   refine x7 ?_
   refine u0 ⟨⟨65,[(0,.p (.sl 1 (w9 [a0,a1,a2,a3]))),(1,.p (.sl 1 (w9 B))),(6,.p (.box F)),(7,.msl 0 1 0 4),(37,.p (.sl 1 (w9 [a0,a1,a2,a3]))),(38,i64 4),(8,i64 2),(39,i64 2)]⟩,[.cells y9 [.msl 1 1 0 c,.msl 2 1 0 c,.msl 3 1 0 c,.msl 4 1 0 c],.row x6 1 (bx (Q6 a0 B c q)),.row x6 1 (bx (Q6 a1 B c q)),.row x6 1 (bx (Q6 a2 B c q)),.row x6 1 (bx (Q6 a3 B c 0))]⟩ True (x3 ?_) (fun _=>?_)
   ·refine y6 hT ?_
    refine⟨by decide,Z2 rfl ?_⟩
    refine y6 hT ?_
    refine x3 ?_
    refine Q3 (fun n s=>∃ (k:Nat) (j:Int),n+k=q∧j=k∧s=⟨⟨65,[(0,.p (.sl 1 (w9 [a0,a1,a2,a3]))),(1,.p (.sl 1 (w9 B))),(6,.p (.box F)),(7,.msl 0 1 0 4),(37,.p (.sl 1 (w9 [a0,a1,a2,a3]))),(38,i64 4),(8,i64 2),(39,i64 2),(44,bA a2),(45,i64 (bx a2).length),(46,i64 j)]⟩,[.cells y9 [.msl 1 1 0 c,.msl 2 1 0 c,.msl 3 1 0 c,.msl 4 1 0 c],.row x6 1 (bx (Q6 a0 B c q)),.row x6 1 (bx (Q6 a1 B c q)),.row x6 1 (bx (Q6 a2 B c k)),.row x6 1 (bx (Q6 a3 B c 0))]⟩) q ⟨⟨65,_⟩,_⟩ (z8 [0,1,2,3,4] [0,1,6,7,37,38,8,39,44,45,46] rfl) ⟨0,0,by omega,rfl,rfl⟩ ?_
    rintro n2 s ⟨k,j,hnk,hj,rfl⟩
    refine y6 hT ?_
    refine u6 (y8 (u9 (fun h=>?_) (fun h=>?_)))
    ·have h:=k0z (show decide (j<(((bx a2).length:Nat):Int))=true from h)
     have hk:k<a2.length:=by omega
     have hkB:k<B.length:=by omega
     refine x7 ?_
     have hxa:=k0w hk
     have hxb:=k0w hkB
     have hst:=U4 c hxa hxb
     have hlb:=hBc _ (k1w hkB)
     generalize a2[k]=x at hxa hst
     generalize B[k]=b at hxb hst hlb
     have hxp:(bx a2)[j.toNat]?=some [u8 x]:=by rw[hj,k0u];exact W6 hxa
     have hbp:(w9 B)[j.toNat]?=some [bP b]:=by rw[hj,k0u];exact Y5 hxb
     have hml:=X3 (B:=B) a2 hBc (k:=k) (by omega)
     have w:=wadd (Q6 a2 B c k) b x hml hlb
     rw[hml,← hst]at w
     refine u0 ⟨⟨65,[(0,.p (.sl 1 (w9 [a0,a1,a2,a3]))),(1,.p (.sl 1 (w9 B))),(6,.p (.box F)),(7,.msl 0 1 0 4),(37,.p (.sl 1 (w9 [a0,a1,a2,a3]))),(38,i64 4),(8,i64 2),(39,i64 2),(44,bA a2),(45,i64 (bx a2).length),(46,i64 j)]⟩,[.cells y9 [.msl 1 1 0 c,.msl 2 1 0 c,.msl 3 1 0 c,.msl 4 1 0 c],.row x6 1 (bx (Q6 a0 B c q)),.row x6 1 (bx (Q6 a1 B c q)),.row x6 1 (bx (Q6 a2 B c (k+1))),.row x6 1 (bx (Q6 a3 B c 0))]⟩ True (x3 (y6 hT ?_)) (fun _=>?_)
     ·refine⟨by omega,Z2 hxp ?_⟩
      refine Z0 [10] [] hT u7 (by rfl) ?_
      refine⟨by decide,?_⟩
      refine⟨by omega,Z2 hbp ?_⟩
      refine⟨_,_,Z7 [3] w rfl rfl rfl,?_⟩
      repeat first|refine⟨rfl,?_⟩|refine⟨⟨by decide,rfl⟩,?_⟩|refine⟨⟨by omega,Z2 hbp rfl⟩,?_⟩
      exact⟨z8 [0,1,2,3,4] [0,1,6,7,37,38,8,39,44,45,46] rfl,trivial⟩
     ·refine y7 hT ?_
      exact⟨n2 - 1,by omega,_,z8 [0,1,2,3,4] [0,1,6,7,37,38,8,39,44,45,46] rfl,k+1,IntKind.i64.wrap (j+1),by omega,by rw[Q0 _ (by omega) (by omega)];omega,rfl⟩
    ·have h:=k0y (show decide (j<(((bx a2).length:Nat):Int))=false from h)
     rw[show k=q by omega]
     refine Q7 ?_
     exact⟨z8 [0,1,2,3,4] [0,1,6,7,37,38,8,39] rfl,trivial⟩
   ·refine y7 hT ?_
    exact⟨1,by decide,_,z8 [0,1,2,3,4] [0,1,6,7,37,38,39] rfl,(.inr (.inr (.inr (.inl ⟨rfl,rfl⟩))))⟩
  ·refine y6 hT ?_
   refine u6 (y8 ?_)
   refine x7 ?_
   refine u0 ⟨⟨65,[(0,.p (.sl 1 (w9 [a0,a1,a2,a3]))),(1,.p (.sl 1 (w9 B))),(6,.p (.box F)),(7,.msl 0 1 0 4),(37,.p (.sl 1 (w9 [a0,a1,a2,a3]))),(38,i64 4),(8,i64 3),(39,i64 3)]⟩,[.cells y9 [.msl 1 1 0 c,.msl 2 1 0 c,.msl 3 1 0 c,.msl 4 1 0 c],.row x6 1 (bx (Q6 a0 B c q)),.row x6 1 (bx (Q6 a1 B c q)),.row x6 1 (bx (Q6 a2 B c q)),.row x6 1 (bx (Q6 a3 B c q))]⟩ True (x3 ?_) (fun _=>?_)
   ·refine y6 hT ?_
    refine⟨by decide,Z2 rfl ?_⟩
    refine y6 hT ?_
    refine x3 ?_
    refine Q3 (fun n s=>∃ (k:Nat) (j:Int),n+k=q∧j=k∧s=⟨⟨65,[(0,.p (.sl 1 (w9 [a0,a1,a2,a3]))),(1,.p (.sl 1 (w9 B))),(6,.p (.box F)),(7,.msl 0 1 0 4),(37,.p (.sl 1 (w9 [a0,a1,a2,a3]))),(38,i64 4),(8,i64 3),(39,i64 3),(44,bA a3),(45,i64 (bx a3).length),(46,i64 j)]⟩,[.cells y9 [.msl 1 1 0 c,.msl 2 1 0 c,.msl 3 1 0 c,.msl 4 1 0 c],.row x6 1 (bx (Q6 a0 B c q)),.row x6 1 (bx (Q6 a1 B c q)),.row x6 1 (bx (Q6 a2 B c q)),.row x6 1 (bx (Q6 a3 B c k))]⟩) q ⟨⟨65,_⟩,_⟩ (z8 [0,1,2,3,4] [0,1,6,7,37,38,8,39,44,45,46] rfl) ⟨0,0,by omega,rfl,rfl⟩ ?_
    rintro n2 s ⟨k,j,hnk,hj,rfl⟩
    refine y6 hT ?_
    refine u6 (y8 (u9 (fun h=>?_) (fun h=>?_)))
    ·have h:=k0z (show decide (j<(((bx a3).length:Nat):Int))=true from h)
     have hk:k<a3.length:=by omega
     have hkB:k<B.length:=by omega
     refine x7 ?_
     have hxa:=k0w hk
     have hxb:=k0w hkB
     have hst:=U4 c hxa hxb
     have hlb:=hBc _ (k1w hkB)
     generalize a3[k]=x at hxa hst
     generalize B[k]=b at hxb hst hlb
     have hxp:(bx a3)[j.toNat]?=some [u8 x]:=by rw[hj,k0u];exact W6 hxa
     have hbp:(w9 B)[j.toNat]?=some [bP b]:=by rw[hj,k0u];exact Y5 hxb
     have hml:=X3 (B:=B) a3 hBc (k:=k) (by omega)
     have w:=wadd (Q6 a3 B c k) b x hml hlb
     rw[hml,← hst]at w
     refine u0 ⟨⟨65,[(0,.p (.sl 1 (w9 [a0,a1,a2,a3]))),(1,.p (.sl 1 (w9 B))),(6,.p (.box F)),(7,.msl 0 1 0 4),(37,.p (.sl 1 (w9 [a0,a1,a2,a3]))),(38,i64 4),(8,i64 3),(39,i64 3),(44,bA a3),(45,i64 (bx a3).length),(46,i64 j)]⟩,[.cells y9 [.msl 1 1 0 c,.msl 2 1 0 c,.msl 3 1 0 c,.msl 4 1 0 c],.row x6 1 (bx (Q6 a0 B c q)),.row x6 1 (bx (Q6 a1 B c q)),.row x6 1 (bx (Q6 a2 B c q)),.row x6 1 (bx (Q6 a3 B c (k+1)))]⟩ True (x3 (y6 hT ?_)) (fun _=>?_)
     ·refine⟨by omega,Z2 hxp ?_⟩
      refine Z0 [10] [] hT u7 (by rfl) ?_
      refine⟨by decide,?_⟩
      refine⟨by omega,Z2 hbp ?_⟩
      refine⟨_,_,Z7 [4] w rfl rfl rfl,?_⟩
      repeat first|refine⟨rfl,?_⟩|refine⟨⟨by decide,rfl⟩,?_⟩|refine⟨⟨by omega,Z2 hbp rfl⟩,?_⟩
      exact⟨z8 [0,1,2,3,4] [0,1,6,7,37,38,8,39,44,45,46] rfl,trivial⟩
     ·refine y7 hT ?_
      exact⟨n2 - 1,by omega,_,z8 [0,1,2,3,4] [0,1,6,7,37,38,8,39,44,45,46] rfl,k+1,IntKind.i64.wrap (j+1),by omega,by rw[Q0 _ (by omega) (by omega)];omega,rfl⟩
    ·have h:=k0y (show decide (j<(((bx a3).length:Nat):Int))=false from h)
     rw[show k=q by omega]
     refine Q7 ?_
     exact⟨z8 [0,1,2,3,4] [0,1,6,7,37,38,8,39] rfl,trivial⟩
   ·refine y7 hT ?_
    exact⟨0,by decide,_,z8 [0,1,2,3,4] [0,1,6,7,37,38,39] rfl,(.inr (.inr (.inr (.inr ⟨rfl,rfl⟩))))⟩
  ·refine y6 hT ?_
   refine u6 (y8 ?_)
   refine Q7 ?_
   exact⟨z8 [0,1,2,3,4] [7] rfl,trivial⟩
 refine y6 hT ?_
 refine u5 ?_
 exact x8 [0,1,2,3,4] ⟨rfl,rfl⟩ rfl
theorem w9e (a0 a1 a2 a3:x9)(B:List x9)(q c:Nat)(q1:1≤q)(q2:q≤64)(c1:1≤c)(c2:c≤4096)(hA:∀ s∈([a0,a1,a2,a3]:List x9),s.length=q)(hB:B.length=q)(hBc:∀ s∈B,s.length=c) :
 AF k0q q0r [.p (.sl 1 (w9 [a0,a1,a2,a3])),.p (.sl 1 (w9 B))] [] (Q9 (.tup [.msl 0 1 0 4,i64 0]) [.row y9 1 (w9 [Q6 a0 B c q,Q6 a1 B c q,Q6 a2 B c q,Q6 a3 B c q])]):=by
 refine y7p (M:=fun i=>([Q6 a0 B c q,Q6 a1 B c q,Q6 a2 B c q,Q6 a3 B c q]:List x9).getD i []) (n:=c) (fun i hi=>?_) (w9d a0 a1 a2 a3 B q c q1 q2 c1 c2 hA hB hBc)
 have:i=0∨i=1∨i=2∨i=3:=by omega
 rcases this with rfl|rfl|rfl|rfl <;> exact X3 _ hBc (by omega)
abbrev U5:Type:=Nat→x9
def swp (M:U5)(c p:Nat):U5:=fun i=>match Nat.beq i c with
 |true=>M p
 |false=>match Nat.beq i p with|true=>M c|false=>M i
def q2p (M:U5)(c:Nat)(v:x9):U5:=fun i=>match Nat.beq i c with|true=>v|false=>M i
def q8k (M:U5)(c:Nat):Nat→Nat→Int
 |0,_=>-1
 |n+1,i=>match (M i).getD c 0 != 0 with|true=>i|false=>q8k M c n (i+1)
def q2c (M:U5)(r c:Nat):Int:=q8k M c (r - c) c
def q1t (c k:Nat)(G:U5 × U5):U5 × U5:=match !Nat.beq k c&&(G.1 k).getD c 0 != 0 with
 |true=>(q2p G.1 k (q2b (G.1 k) (G.1 c) ((G.1 k).getD c 0)),q2p G.2 k (q2b (G.2 k) (G.2 c) ((G.1 k).getD c 0)))
 |false=>G
def elS (c:Nat)(G:U5 × U5):Nat→U5 × U5
 |0=>G
 |k+1=>q1t c k (elS c G k)
def q9z (r c:Nat)(G:U5 × U5):U5 × U5:=(swp G.1 c (q2c G.1 r c).toNat,swp G.2 c (q2c G.1 r c).toNat)
def z5u (c:Nat)(G:U5 × U5):U5 × U5:=(q2p G.1 c (q1s (Gf.inv ((G.1 c).getD c 0)) (G.1 c)),q2p G.2 c (q1s (Gf.inv ((G.1 c).getD c 0)) (G.2 c)))
def q3i (r c:Nat)(G:U5 × U5):U5 × U5:=elS c (z5u c (q9z r c G)) r
def gs0 (r:Nat)(L:List x9):U5 × U5:=(fun i=>L.getD i [],Z5 idA r)
def gs (r:Nat)(L:List x9):Nat→U5 × U5
 |0=>gs0 r L
 |c+1=>q3i r c (gs r L c)
def y2f (r:Nat)(L:List x9):Bool:=(List.range r).all fun c=>decide (0≤q2c (gs r L c).1 r c)
def J2 (r:Nat)(M:U5):Prop:=∀ i,i<r→(M i).length=r
theorem q2v {r:Nat}{M:U5}(h:J2 r M){c p:Nat}(hc:c<r)(hp:p<r):J2 r (swp M c p):=fun i hi=>by
 unfold swp
 split
 ·exact h p hp
 ·split
  ·exact h c hc
  ·exact h i hi
theorem q1p {r:Nat}{M:U5}(h:J2 r M)(c:Nat){v:x9}(hv:v.length=r):J2 r (q2p M c v):=fun i hi=>by
 unfold q2p
 split
 ·exact hv
 ·exact h i hi
theorem q0w (x:UInt8)(t:x9):(q1s x t).length=t.length:=k1x _
theorem w3g {r c k:Nat}(hc:c<r)(hk:k<r){G:U5 × U5}(h1:J2 r G.1)(h2:J2 r G.2):J2 r (q1t c k G).1∧J2 r (q1t c k G).2:=by
 unfold q1t
 split
 ·exact⟨q1p h1 k (by rw[q8j _ (by rw[h1 k hk,h1 c hc]),h1 k hk]),q1p h2 k (by rw[q8j _ (by rw[h2 k hk,h2 c hc]),h2 k hk])⟩
 ·exact⟨h1,h2⟩
theorem z2b {r c:Nat}(hc:c<r){G:U5 × U5}(h1:J2 r G.1)(h2:J2 r G.2):∀ k,k≤r→J2 r (elS c G k).1∧J2 r (elS c G k).2
 |0,_=>⟨h1,h2⟩
 |k+1,hk=>by
  obtain⟨a,b⟩:=z2b hc h1 h2 k (by omega)
  exact w3g hc (by omega) a b
theorem w6b (M:U5)(c:Nat):∀ n i,0≤q8k M c n i→∃ p:Nat,q8k M c n i=p∧i≤p∧p<i+n∧(M p).getD c 0≠0
 |0,i,h=>absurd h (by show ¬ (0:Int)≤-1;decide)
 |n+1,i,h=>by
  unfold q8k at h ⊢
  cases hm:(M i).getD c 0 != 0 with
  |true=>exact⟨i,rfl,k1v _,by omega,bne_iff_ne.mp hm⟩
  |false=>
   rw[hm]at h
   obtain⟨p,h1,h2,h3,h4⟩:=w6b M c n (i+1) h
   exact⟨p,h1,by omega,by omega,h4⟩
theorem z5v {M:U5}{r c:Nat}(hc:c<r)(h:0≤q2c M r c):∃ p:Nat,q2c M r c=p∧c≤p∧p<r∧(M p).getD c 0≠0:=by
 obtain⟨p,h1,h2,h3,h4⟩:=w6b M c (r - c) c h
 exact⟨p,h1,h2,by omega,h4⟩
theorem z9w {r:Nat}{L:List x9}(h:y2f r L=true){c:Nat}(hc:c<r):0≤q2c (gs r L c).1 r c:=by
 unfold y2f at h
 exact k0z (List.all_eq_true.mp h c (List.mem_range.mpr hc))
theorem y2g {r:Nat}{L:List x9}(hok:y2f r L=true)(hL:L.length=r)(hr:∀ s∈L,s.length=r):∀ c,c≤r→J2 r (gs r L c).1∧J2 r (gs r L c).2
 |0,_=>by
  refine⟨fun i hi=>?_,fun i _=>by show (Z5 idA r i).length=r;unfold Z5;rw[k1x,k3q]⟩
  show (L.getD i []).length=r
  rw[k0v,k0w (by omega)]
  exact hr _ (k1w _)
 |c+1,hc=>by
  obtain⟨a,b⟩:=y2g hok hL hr c (by omega)
  obtain⟨p,p1,_,p3,_⟩:=z5v (by omega) (z9w hok (c:=c) (by omega))
  have e:(q2c (gs r L c).1 r c).toNat=p:=by rw[p1];exact k0u p
  have s1:J2 r (q9z r c (gs r L c)).1:=by show J2 r (swp _ c (q2c _ r c).toNat);rw[e];exact q2v a (by omega) p3
  have s2:J2 r (q9z r c (gs r L c)).2:=by show J2 r (swp _ c (q2c _ r c).toNat);rw[e];exact q2v b (by omega) p3
  exact z2b (by omega) (q1p s1 c (by rw[q0w];exact s1 c (by omega))) (q1p s2 c (by rw[q0w];exact s2 c (by omega))) r (k1v _)
theorem q2q {l:x9}{c:Nat}(h:c<l.length):l[c]?=some (l.getD c 0):=by rw[k0v,k0w h];rfl
theorem w3h (M:U5)(hM:J2 1 M)(c:Nat)(hc:c<1):AFm k0q 2 q9c [.msl 0 1 0 1,i64 c] [.cells y9 [.msl 1 1 0 1],.row x6 1 (bx (M 0))] (Q9 (i64 (q2c M 1 c)) [.cells y9 [.msl 1 1 0 1],.row x6 1 (bx (M 0))]):=by
 refine AFm.mono (R:=fun r H'=>∃ z,z=q2c M 1 c∧r=i64 z∧H'=[.cells y9 [.msl 1 1 0 1],.row x6 1 (bx (M 0))]) ?_ (by rintro r H' ⟨z,rfl,rfl,rfl⟩;exact⟨rfl,rfl⟩)
 have e0:q2c M 1 c=q8k M c (1 - c) c:=rfl
 generalize q2c M 1 c=Z at e0
 refine Z6 2 hT Tryz.func207 rfl rfl Tryz.ntmps207 rfl rfl ?_
 refine y6 hT ?_
 refine u0 ⟨⟨22,[]⟩,[.cells y9 [.msl 1 1 0 1],.row x6 1 (bx (M 0))]⟩ (Z = -1) (y6 hT ?_) (fun hZ=>?_)
 ·refine x3 ?_
  refine Q3 (fun n s=>∃ (k:Nat) (j:Int),n+k=1∧j=k∧Z=q8k M c (1 - k) k∧s=⟨⟨22,[(0,.msl 0 1 0 1),(1,i64 c),(5,i64 j)]⟩,[.cells y9 [.msl 1 1 0 1],.row x6 1 (bx (M 0))]⟩) (1 - c) ⟨⟨22,_⟩,_⟩ (z8 [0,1] [0,1,5] rfl) ⟨c,c,by omega,rfl,e0,rfl⟩ ?_
  rintro n s ⟨k,j,hnk,hj,hz,rfl⟩
  refine u6 (y6 hT ?_)
  refine y8 (u9 (fun h=>?_) (fun h=>?_))
  ·have h:=k0z (show decide (j<((1:Nat):Int))=true from h)
   have hk:k<1:=by omega
   refine x7 ?_
   have hzs:q8k M c (1 - k) k=match (M k).getD c 0 != 0 with|true=>(k:Int)|false=>q8k M c (1 - (k+1)) (k+1):=by
    rw[show 1 - k=(1 - (k+1))+1 by omega];rfl
   rw[hzs]at hz
   have hg:=q2q (l:=M k) (c:=c) (by rw[hM k hk];exact hc)
   have hlt:=((M k).getD c 0).toNat_lt
   generalize hv:(M k).getD c 0=v at hg hz hlt
   have hgx:(bx (M k))[0+((c:Nat):Int).toNat]?=some [u8 v]:=by rw[k0u,Nat.zero_add];exact W6 hg
   refine u0 ⟨⟨22,[(0,.msl 0 1 0 1),(1,i64 c),(5,i64 j)]⟩,[.cells y9 [.msl 1 1 0 1],.row x6 1 (bx (M 0))]⟩ (v=0) (x3 (y6 hT ?_)) (fun hv0=>?_)
   ·subst hj
    have hk4:k=0:=by omega
    rcases hk4 with rfl
    all_goals
     refine⟨by decide,?_⟩
     refine⟨⟨by omega,by omega⟩,?_⟩
     refine Z2 hgx ?_
     refine y8 (u9 (fun h=>?_) (fun h=>?_))
     ·have h:(((v.toNat:Nat):Int) != 0)=true:=h
      rw[bne_iff_ne]at h
      have hne:v≠0:=fun e=>h (by rw[e];rfl)
      rw[bne_iff_ne.mpr hne]at hz
      refine y6 hT ?_
      refine u5 ?_
      exact x8 [0,1] ⟨_,hz.symm,rfl,rfl⟩ rfl
     ·have h:(((v.toNat:Nat):Int) != 0)=false:=h
      rw[bne_eq_false_iff_eq]at h
      exact x7 ⟨z8 [0,1] [0,1,5] rfl,UInt8.toNat_inj.mp (by show v.toNat=0;omega)⟩
   ·rw[hv0]at hz
    refine y7 hT ?_
    exact⟨n - 1,by omega,_,z8 [0,1] [0,1,5] rfl,k+1,IntKind.i64.wrap (j+1),by omega,by rw[Q0 _ (by omega) (by omega)];omega,hz,rfl⟩
  ·have h:=k0y (show decide (j<((1:Nat):Int))=false from h)
   rw[show 1 - k=0 by omega]at hz
   refine Q7 ?_
   exact⟨z8 [0,1] [] rfl,hz⟩
 refine y6 hT ?_
 refine u5 ?_
 exact x8 [0,1] ⟨_,hZ.symm,rfl,rfl⟩ rfl
theorem w3i (M:U5)(hM:J2 2 M)(c:Nat)(hc:c<2):AFm k0q 3 q9c [.msl 0 1 0 2,i64 c] [.cells y9 [.msl 1 1 0 2,.msl 2 1 0 2],.row x6 1 (bx (M 0)),.row x6 1 (bx (M 1))] (Q9 (i64 (q2c M 2 c)) [.cells y9 [.msl 1 1 0 2,.msl 2 1 0 2],.row x6 1 (bx (M 0)),.row x6 1 (bx (M 1))]):=by
 refine AFm.mono (R:=fun r H'=>∃ z,z=q2c M 2 c∧r=i64 z∧H'=[.cells y9 [.msl 1 1 0 2,.msl 2 1 0 2],.row x6 1 (bx (M 0)),.row x6 1 (bx (M 1))]) ?_ (by rintro r H' ⟨z,rfl,rfl,rfl⟩;exact⟨rfl,rfl⟩)
 have e0:q2c M 2 c=q8k M c (2 - c) c:=rfl
 generalize q2c M 2 c=Z at e0
 refine Z6 3 hT Tryz.func207 rfl rfl Tryz.ntmps207 rfl rfl ?_
 refine y6 hT ?_
 refine u0 ⟨⟨22,[]⟩,[.cells y9 [.msl 1 1 0 2,.msl 2 1 0 2],.row x6 1 (bx (M 0)),.row x6 1 (bx (M 1))]⟩ (Z = -1) (y6 hT ?_) (fun hZ=>?_)
 ·refine x3 ?_
  refine Q3 (fun n s=>∃ (k:Nat) (j:Int),n+k=2∧j=k∧Z=q8k M c (2 - k) k∧s=⟨⟨22,[(0,.msl 0 1 0 2),(1,i64 c),(5,i64 j)]⟩,[.cells y9 [.msl 1 1 0 2,.msl 2 1 0 2],.row x6 1 (bx (M 0)),.row x6 1 (bx (M 1))]⟩) (2 - c) ⟨⟨22,_⟩,_⟩ (z8 [0,1,2] [0,1,5] rfl) ⟨c,c,by omega,rfl,e0,rfl⟩ ?_
  rintro n s ⟨k,j,hnk,hj,hz,rfl⟩
  refine u6 (y6 hT ?_)
  refine y8 (u9 (fun h=>?_) (fun h=>?_))
  ·have h:=k0z (show decide (j<((2:Nat):Int))=true from h)
   have hk:k<2:=by omega
   refine x7 ?_
   have hzs:q8k M c (2 - k) k=match (M k).getD c 0 != 0 with|true=>(k:Int)|false=>q8k M c (2 - (k+1)) (k+1):=by
    rw[show 2 - k=(2 - (k+1))+1 by omega];rfl
   rw[hzs]at hz
   have hg:=q2q (l:=M k) (c:=c) (by rw[hM k hk];exact hc)
   have hlt:=((M k).getD c 0).toNat_lt
   generalize hv:(M k).getD c 0=v at hg hz hlt
   have hgx:(bx (M k))[0+((c:Nat):Int).toNat]?=some [u8 v]:=by rw[k0u,Nat.zero_add];exact W6 hg
   refine u0 ⟨⟨22,[(0,.msl 0 1 0 2),(1,i64 c),(5,i64 j)]⟩,[.cells y9 [.msl 1 1 0 2,.msl 2 1 0 2],.row x6 1 (bx (M 0)),.row x6 1 (bx (M 1))]⟩ (v=0) (x3 (y6 hT ?_)) (fun hv0=>?_)
   ·subst hj
    have hk4:k=0∨k=1:=by omega
    rcases hk4 with rfl|rfl
    all_goals
     refine⟨by decide,?_⟩
     refine⟨⟨by omega,by omega⟩,?_⟩
     refine Z2 hgx ?_
     refine y8 (u9 (fun h=>?_) (fun h=>?_))
     ·have h:(((v.toNat:Nat):Int) != 0)=true:=h
      rw[bne_iff_ne]at h
      have hne:v≠0:=fun e=>h (by rw[e];rfl)
      rw[bne_iff_ne.mpr hne]at hz
      refine y6 hT ?_
      refine u5 ?_
      exact x8 [0,1,2] ⟨_,hz.symm,rfl,rfl⟩ rfl
     ·have h:(((v.toNat:Nat):Int) != 0)=false:=h
      rw[bne_eq_false_iff_eq]at h
      exact x7 ⟨z8 [0,1,2] [0,1,5] rfl,UInt8.toNat_inj.mp (by show v.toNat=0;omega)⟩
   ·rw[hv0]at hz
    refine y7 hT ?_
    exact⟨n - 1,by omega,_,z8 [0,1,2] [0,1,5] rfl,k+1,IntKind.i64.wrap (j+1),by omega,by rw[Q0 _ (by omega) (by omega)];omega,hz,rfl⟩
  ·have h:=k0y (show decide (j<((2:Nat):Int))=false from h)
   rw[show 2 - k=0 by omega]at hz
   refine Q7 ?_
   exact⟨z8 [0,1,2] [] rfl,hz⟩
 refine y6 hT ?_
 refine u5 ?_
 exact x8 [0,1,2] ⟨_,hZ.symm,rfl,rfl⟩ rfl
theorem w3j (M:U5)(hM:J2 3 M)(c:Nat)(hc:c<3):AFm k0q 4 q9c [.msl 0 1 0 3,i64 c] [.cells y9 [.msl 1 1 0 3,.msl 2 1 0 3,.msl 3 1 0 3],.row x6 1 (bx (M 0)),.row x6 1 (bx (M 1)),.row x6 1 (bx (M 2))] (Q9 (i64 (q2c M 3 c)) [.cells y9 [.msl 1 1 0 3,.msl 2 1 0 3,.msl 3 1 0 3],.row x6 1 (bx (M 0)),.row x6 1 (bx (M 1)),.row x6 1 (bx (M 2))]):=by
 refine AFm.mono (R:=fun r H'=>∃ z,z=q2c M 3 c∧r=i64 z∧H'=[.cells y9 [.msl 1 1 0 3,.msl 2 1 0 3,.msl 3 1 0 3],.row x6 1 (bx (M 0)),.row x6 1 (bx (M 1)),.row x6 1 (bx (M 2))]) ?_ (by rintro r H' ⟨z,rfl,rfl,rfl⟩;exact⟨rfl,rfl⟩)
 have e0:q2c M 3 c=q8k M c (3 - c) c:=rfl
 generalize q2c M 3 c=Z at e0
 refine Z6 4 hT Tryz.func207 rfl rfl Tryz.ntmps207 rfl rfl ?_
 refine y6 hT ?_
 refine u0 ⟨⟨22,[]⟩,[.cells y9 [.msl 1 1 0 3,.msl 2 1 0 3,.msl 3 1 0 3],.row x6 1 (bx (M 0)),.row x6 1 (bx (M 1)),.row x6 1 (bx (M 2))]⟩ (Z = -1) (y6 hT ?_) (fun hZ=>?_)
 ·refine x3 ?_
  refine Q3 (fun n s=>∃ (k:Nat) (j:Int),n+k=3∧j=k∧Z=q8k M c (3 - k) k∧s=⟨⟨22,[(0,.msl 0 1 0 3),(1,i64 c),(5,i64 j)]⟩,[.cells y9 [.msl 1 1 0 3,.msl 2 1 0 3,.msl 3 1 0 3],.row x6 1 (bx (M 0)),.row x6 1 (bx (M 1)),.row x6 1 (bx (M 2))]⟩) (3 - c) ⟨⟨22,_⟩,_⟩ (z8 [0,1,2,3] [0,1,5] rfl) ⟨c,c,by omega,rfl,e0,rfl⟩ ?_
  rintro n s ⟨k,j,hnk,hj,hz,rfl⟩
  refine u6 (y6 hT ?_)
  refine y8 (u9 (fun h=>?_) (fun h=>?_))
  ·have h:=k0z (show decide (j<((3:Nat):Int))=true from h)
   have hk:k<3:=by omega
   refine x7 ?_
   have hzs:q8k M c (3 - k) k=match (M k).getD c 0 != 0 with|true=>(k:Int)|false=>q8k M c (3 - (k+1)) (k+1):=by
    rw[show 3 - k=(3 - (k+1))+1 by omega];rfl
   rw[hzs]at hz
   have hg:=q2q (l:=M k) (c:=c) (by rw[hM k hk];exact hc)
   have hlt:=((M k).getD c 0).toNat_lt
   generalize hv:(M k).getD c 0=v at hg hz hlt
   have hgx:(bx (M k))[0+((c:Nat):Int).toNat]?=some [u8 v]:=by rw[k0u,Nat.zero_add];exact W6 hg
   refine u0 ⟨⟨22,[(0,.msl 0 1 0 3),(1,i64 c),(5,i64 j)]⟩,[.cells y9 [.msl 1 1 0 3,.msl 2 1 0 3,.msl 3 1 0 3],.row x6 1 (bx (M 0)),.row x6 1 (bx (M 1)),.row x6 1 (bx (M 2))]⟩ (v=0) (x3 (y6 hT ?_)) (fun hv0=>?_)
   ·subst hj
    have hk4:k=0∨k=1∨k=2:=by omega
    rcases hk4 with rfl|rfl|rfl
    all_goals
     refine⟨by decide,?_⟩
     refine⟨⟨by omega,by omega⟩,?_⟩
     refine Z2 hgx ?_
     refine y8 (u9 (fun h=>?_) (fun h=>?_))
     ·have h:(((v.toNat:Nat):Int) != 0)=true:=h
      rw[bne_iff_ne]at h
      have hne:v≠0:=fun e=>h (by rw[e];rfl)
      rw[bne_iff_ne.mpr hne]at hz
      refine y6 hT ?_
      refine u5 ?_
      exact x8 [0,1,2,3] ⟨_,hz.symm,rfl,rfl⟩ rfl
     ·have h:(((v.toNat:Nat):Int) != 0)=false:=h
      rw[bne_eq_false_iff_eq]at h
      exact x7 ⟨z8 [0,1,2,3] [0,1,5] rfl,UInt8.toNat_inj.mp (by show v.toNat=0;omega)⟩
   ·rw[hv0]at hz
    refine y7 hT ?_
    exact⟨n - 1,by omega,_,z8 [0,1,2,3] [0,1,5] rfl,k+1,IntKind.i64.wrap (j+1),by omega,by rw[Q0 _ (by omega) (by omega)];omega,hz,rfl⟩
  ·have h:=k0y (show decide (j<((3:Nat):Int))=false from h)
   rw[show 3 - k=0 by omega]at hz
   refine Q7 ?_
   exact⟨z8 [0,1,2,3] [] rfl,hz⟩
 refine y6 hT ?_
 refine u5 ?_
 exact x8 [0,1,2,3] ⟨_,hZ.symm,rfl,rfl⟩ rfl
theorem w3k (M:U5)(hM:J2 4 M)(c:Nat)(hc:c<4):AFm k0q 5 q9c [.msl 0 1 0 4,i64 c] [.cells y9 [.msl 1 1 0 4,.msl 2 1 0 4,.msl 3 1 0 4,.msl 4 1 0 4],.row x6 1 (bx (M 0)),.row x6 1 (bx (M 1)),.row x6 1 (bx (M 2)),.row x6 1 (bx (M 3))] (Q9 (i64 (q2c M 4 c)) [.cells y9 [.msl 1 1 0 4,.msl 2 1 0 4,.msl 3 1 0 4,.msl 4 1 0 4],.row x6 1 (bx (M 0)),.row x6 1 (bx (M 1)),.row x6 1 (bx (M 2)),.row x6 1 (bx (M 3))]):=by
 refine AFm.mono (R:=fun r H'=>∃ z,z=q2c M 4 c∧r=i64 z∧H'=[.cells y9 [.msl 1 1 0 4,.msl 2 1 0 4,.msl 3 1 0 4,.msl 4 1 0 4],.row x6 1 (bx (M 0)),.row x6 1 (bx (M 1)),.row x6 1 (bx (M 2)),.row x6 1 (bx (M 3))]) ?_ (by rintro r H' ⟨z,rfl,rfl,rfl⟩;exact⟨rfl,rfl⟩)
 have e0:q2c M 4 c=q8k M c (4 - c) c:=rfl
 generalize q2c M 4 c=Z at e0
 refine Z6 5 hT Tryz.func207 rfl rfl Tryz.ntmps207 rfl rfl ?_
 refine y6 hT ?_
 refine u0 ⟨⟨22,[]⟩,[.cells y9 [.msl 1 1 0 4,.msl 2 1 0 4,.msl 3 1 0 4,.msl 4 1 0 4],.row x6 1 (bx (M 0)),.row x6 1 (bx (M 1)),.row x6 1 (bx (M 2)),.row x6 1 (bx (M 3))]⟩ (Z = -1) (y6 hT ?_) (fun hZ=>?_)
 ·refine x3 ?_
  refine Q3 (fun n s=>∃ (k:Nat) (j:Int),n+k=4∧j=k∧Z=q8k M c (4 - k) k∧s=⟨⟨22,[(0,.msl 0 1 0 4),(1,i64 c),(5,i64 j)]⟩,[.cells y9 [.msl 1 1 0 4,.msl 2 1 0 4,.msl 3 1 0 4,.msl 4 1 0 4],.row x6 1 (bx (M 0)),.row x6 1 (bx (M 1)),.row x6 1 (bx (M 2)),.row x6 1 (bx (M 3))]⟩) (4 - c) ⟨⟨22,_⟩,_⟩ (z8 [0,1,2,3,4] [0,1,5] rfl) ⟨c,c,by omega,rfl,e0,rfl⟩ ?_
  rintro n s ⟨k,j,hnk,hj,hz,rfl⟩
  refine u6 (y6 hT ?_)
  refine y8 (u9 (fun h=>?_) (fun h=>?_))
  ·have h:=k0z (show decide (j<((4:Nat):Int))=true from h)
   have hk:k<4:=by omega
   refine x7 ?_
   have hzs:q8k M c (4 - k) k=match (M k).getD c 0 != 0 with|true=>(k:Int)|false=>q8k M c (4 - (k+1)) (k+1):=by
    rw[show 4 - k=(4 - (k+1))+1 by omega];rfl
   rw[hzs]at hz
   have hg:=q2q (l:=M k) (c:=c) (by rw[hM k hk];exact hc)
   have hlt:=((M k).getD c 0).toNat_lt
   generalize hv:(M k).getD c 0=v at hg hz hlt
   have hgx:(bx (M k))[0+((c:Nat):Int).toNat]?=some [u8 v]:=by rw[k0u,Nat.zero_add];exact W6 hg
   refine u0 ⟨⟨22,[(0,.msl 0 1 0 4),(1,i64 c),(5,i64 j)]⟩,[.cells y9 [.msl 1 1 0 4,.msl 2 1 0 4,.msl 3 1 0 4,.msl 4 1 0 4],.row x6 1 (bx (M 0)),.row x6 1 (bx (M 1)),.row x6 1 (bx (M 2)),.row x6 1 (bx (M 3))]⟩ (v=0) (x3 (y6 hT ?_)) (fun hv0=>?_)
   ·subst hj
    have hk4:k=0∨k=1∨k=2∨k=3:=by omega
    rcases hk4 with rfl|rfl|rfl|rfl
    all_goals
     refine⟨by decide,?_⟩
     refine⟨⟨by omega,by omega⟩,?_⟩
     refine Z2 hgx ?_
     refine y8 (u9 (fun h=>?_) (fun h=>?_))
     ·have h:(((v.toNat:Nat):Int) != 0)=true:=h
      rw[bne_iff_ne]at h
      have hne:v≠0:=fun e=>h (by rw[e];rfl)
      rw[bne_iff_ne.mpr hne]at hz
      refine y6 hT ?_
      refine u5 ?_
      exact x8 [0,1,2,3,4] ⟨_,hz.symm,rfl,rfl⟩ rfl
     ·have h:(((v.toNat:Nat):Int) != 0)=false:=h
      rw[bne_eq_false_iff_eq]at h
      exact x7 ⟨z8 [0,1,2,3,4] [0,1,5] rfl,UInt8.toNat_inj.mp (by show v.toNat=0;omega)⟩
   ·rw[hv0]at hz
    refine y7 hT ?_
    exact⟨n - 1,by omega,_,z8 [0,1,2,3,4] [0,1,5] rfl,k+1,IntKind.i64.wrap (j+1),by omega,by rw[Q0 _ (by omega) (by omega)];omega,hz,rfl⟩
  ·have h:=k0y (show decide (j<((4:Nat):Int))=false from h)
   rw[show 4 - k=0 by omega]at hz
   refine Q7 ?_
   exact⟨z8 [0,1,2,3,4] [] rfl,hz⟩
 refine y6 hT ?_
 refine u5 ?_
 exact x8 [0,1,2,3,4] ⟨_,hZ.symm,rfl,rfl⟩ rfl
end Go.Proofs.YtkjklhcfgbaceaaGreat.AL
