/- A part of the proof. -/
import Derived.Test.YtinfbclgkghgaaaGreatSnipO
open List renaming getElem?_eq_getElem→k0x,getD_eq_getElem?_getD→k0w,getElem?_map→k1q,length_append→k1z,length_map→k1y,getElem_mem→k1x,take_of_length_le→k2z,length_take→k2u,take_add_one→k2t
open Int renaming toNat_natCast→k0v
open Nat renaming le_refl→k1w
set_option maxHeartbeats 16000000
set_option maxRecDepth 20000
namespace Go.Proofs.YtinfbclgkghgaaaGreat.AL
open Go Go.Proofs
theorem y9y (S:List z6)(m c:Nat)(m1:1≤m)(m3:m≤3)(c1:1≤c)(c2:c≤4096)(hl:S.length=1+m)(hS:∀ s∈S,s.length=0∨s.length=c) :
 AF Tryz.prog q1z [.p (.sl 1 (z2 S)),i64 1] [] (v8 (.tup [.p (.sl 1 (z2 (J9 S 1 m c).1)),i64 (J9 S 1 m c).2]) []):=by
 refine AF.mono (R:=fun r H'=>∃ z,z=J9 S 1 m c∧r=.tup [.p (.sl 1 (z2 z.1)),i64 z.2]∧H'=[]) ?_ (by rintro r H' ⟨z,rfl,rfl,rfl⟩;exact⟨rfl,rfl⟩)
 have eD:J9 S 1 m c=match decide ((Q6 S 1 (1+m)).length<1) with
  |true=>([],9)
  |false=>(W9 S 1 m c++q1g (W9 S 1 m c) m c,0):=rfl
 have hcl:=u5 S
 have hm:IntKind.i64.wrap ((((z2 S).length:Nat):Int) - ((1:Nat):Int))=(m:Int):=by rw[y8 _ (by omega) (by omega)];omega
 have wr:=q7u 1 m (by decide) m1 (by omega)
 have hrl:=q3s 1 m
 have hRB:byB S 1 m=X3 (Y5 1 m) (Q6 S 1 (1+m)):=rfl
 have hSO:ofB S 1 m=X3 S (Q6 S 1 (1+m)):=rfl
 have hGs:∀ i,Q6 S 1 (i+1)=match decide ((Q6 S 1 i).length<1)&&decide (0<(S.getD i []).length) with
  |true=>Q6 S 1 i++[i]
  |false=>Q6 S 1 i:=fun i=>rfl
 have hgl:=fun i=>q1u S 1 i
 have hG0:Q6 S 1 0=[]:=rfl
 have hD:=z8s S m c m1 m3 hl hS (r:=1)
 have hslv:(Q6 S 1 (1+m)).length=1→∀ Y:z6,Y.length=1→AF Tryz.prog J3 [.p (.sl 1 (z2 (byB S 1 m))),bA Y] [] (v8 (bA (q4r 1 (byB S 1 m) Y)) []):=fun hg Y hY=>by
  have hbl:=q6s hg
  have hbr:=z3z (S:=S) (k:=1) (m:=m)
  have hbk:=q6x (by omega) hg
  generalize byB S 1 m=B at hbl hbr hbk ⊢
  rw[w3j hbl]at hbr hbk ⊢
  exact y9w (B.getD 0 []) Y hbr hbk hY
 rw[← hm]at wr
 generalize J9 S 1 m c=Z at eD
 generalize byB S 1 m=BY at hRB hslv hD
 generalize ofB S 1 m=OF at hSO hD
 generalize W9 S 1 m c=D at eD hD
 have hRc:=u5 (Y5 1 m)
 have hRg:=fun(i:Nat) (hi:i<1+m)=>Q0 (q9t (l:=Y5 1 m) (i:=i) (by rw[hrl];exact hi))
 generalize Y5 1 m=RB at wr hRg hRB hrl hRc
 generalize hRR:z2 RB=R at wr hRg hRc
 generalize Q6 S 1=good at eD hRB hSO hGs hgl hG0 hD hslv
 refine v6 hT q4f rfl rfl q4g rfl ?_
 refine q8 hT ?_
 refine z7 ⟨⟨136,[(0,.p (.sl 1 (z2 S))),(1,i64 1),(6,.p (.sl 1 R)),(7,i64 0)]⟩,[]⟩ True (q9 hT ?_) (fun _=>?_)
 ·refine x7 (w7 wr _ rfl rfl) ?_
  exact⟨q7 [] [0,1,6,7] rfl,trivial⟩
 refine z8 (q8 hT ?_)
 refine z4 ?_
 refine z5 ?_
 refine q8 hT ?_
 refine q8 hT ?_
 refine q8 hT ?_
 refine z7 ⟨⟨136,[(0,.p (.sl 1 (z2 S))),(1,i64 1),(6,.p (.sl 1 R)),(8,i64 0),(9,.msl 0 1 0 (z2 []).length),(10,.msl 1 1 0 (z2 []).length),(11,i64 0)]⟩,[.row z0 1 (z2 []),.row z0 1 (z2 [])]⟩ True (q9 hT ?_) (fun _=>?_)
 ·exact⟨Wk.trans (Q2 z0 1) (Wk.trans (Q2 z0 1) (Wk.trans (V6 9 0 1 0 rfl) (Wk.trans (V6 10 1 1 0 rfl) (q7 [0,1] [0,1,6,8,9,10,11] rfl)))),trivial⟩
 refine y6 (fun st=>∃ (q:Nat) (lf lg:Int) (X Y:List z6),lf=q∧(good (1+m)).length=min q 1∧((q=0∧lg=0)∨(0<q∧lg=c))∧X=BY∧Y=OF∧st=⟨⟨136,[(0,.p (.sl 1 (z2 S))),(1,i64 1),(8,i64 lg),(9,.msl 0 1 0 (z2 X).length),(10,.msl 1 1 0 (z2 Y).length),(11,i64 lf)]⟩,[.row z0 1 (z2 X),.row z0 1 (z2 Y)]⟩) (q8 hT ?_) ?_
 ·refine z3 ?_
  refine y7 (fun n st=>∃ (i q:Nat) (ji lf lg:Int) (X Y:List z6),n+i=1+m∧ji=i∧lf=q∧q≤i∧(good i).length=min q 1∧((q=0∧lg=0)∨(0<q∧lg=c))∧X=X3 RB (good i)∧Y=X3 S (good i)∧st=⟨⟨136,[(0,.p (.sl 1 (z2 S))),(1,i64 1),(6,.p (.sl 1 R)),(8,i64 lg),(9,.msl 0 1 0 (z2 X).length),(10,.msl 1 1 0 (z2 Y).length),(11,i64 lf),(12,i64 ji)]⟩,[.row z0 1 (z2 X),.row z0 1 (z2 Y)]⟩) (1+m) ⟨⟨136,_⟩,_⟩ (q7 [0,1] [0,1,6,8,9,10,11,12] rfl) ⟨0,0,0,0,0,[],[],by omega,rfl,rfl,k1w _,by rw[hG0];rfl,.inl ⟨rfl,rfl⟩,by rw[hG0];rfl,by rw[hG0];rfl,rfl⟩ ?_
  rintro n st ⟨i,q,ji,lf,lg,X,Y,hni,hji,hlf,hqi,hq,hlg,hX,hY,rfl⟩
  refine z8 (q8 hT ?_)
  refine z4 (y4 (fun h=>?_) (fun h=>?_))
  ·have h:=k0q (show decide (ji<(((z2 S).length:Nat):Int))=true from h)
   have hi:i<S.length:=by omega
   refine z5 ?_
   have hs:=k0x hi
   have hsl:=hS _ (k1x hi)
   have hGi:=hGs i
   rw[getD_some hs]at hGi
   have hpS:X3 S (good i++[i])=X3 S (good i)++[S[i]]:=q3v (getD_some hs)
   generalize S[i]=s at hs hsl hGi hpS
   have hpR:X3 RB (good i++[i])=X3 RB (good i)++[RB.getD i []]:=q3v rfl
   have hRp:=hRg i (by omega)
   generalize RB.getD i []=ra at hRp hpR
   rw[show i=ji.toNat by omega]at hRp
   have hsp:(z2 S)[ji.toNat]?=some [bP s]:=by rw[hji,k0v];exact Q0 hs
   have hbs:=w6 s
   have hGl:=hgl i
   have hXl:(z2 X).length=(good i).length:=by rw[u5,hX,X3,k1y]
   have hYl:(z2 Y).length=(good i).length:=by rw[u5,hY,X3,k1y]
   rw[← hX]at hpR
   rw[← hY]at hpS
   generalize good i=G at *
   obtain⟨G1,hG1⟩:∃ G1,G1=good (i+1):=⟨_,rfl⟩
   rw[← hG1]at hGi
   refine y6 (fun st=>∃ (q':Nat) (lf' lg':Int) (X' Y':List z6),lf'=q'∧q'≤i+1∧G1.length=min q' 1∧((q'=0∧lg'=0)∨(0<q'∧lg'=c))∧X'=X3 RB G1∧Y'=X3 S G1∧st=⟨⟨136,[(0,.p (.sl 1 (z2 S))),(1,i64 1),(6,.p (.sl 1 R)),(8,i64 lg'),(9,.msl 0 1 0 (z2 X').length),(10,.msl 1 1 0 (z2 Y').length),(11,i64 lf'),(12,i64 ji)]⟩,[.row z0 1 (z2 X'),.row z0 1 (z2 Y')]⟩) (z3 (q8 hT ?_)) ?_
   ·refine⟨by omega,w9 hsp ?_⟩
    refine z8 (q8 hT ?_)
    refine z4 (y4 (fun h=>?_) (fun h=>?_))
    ·have h:((((bx s).length:Nat):Int)==0)=true:=h
     rw[beq_iff_eq]at h
     rw[k1t (show ¬ 0<s.length by omega),Bool.and_false]at hGi
     have hGi:G1=G:=hGi
     refine x6 ?_
     exact⟨_,q7 [0,1] [0,1,6,8,9,10,11,12] rfl,q,lf,lg,X,Y,hlf,by omega,by rw[hGi];exact hq,hlg,by rw[hGi];exact hX,by rw[hGi];exact hY,rfl⟩
    have h:((((bx s).length:Nat):Int)==0)=false:=h
    rw[beq_eq_false_iff_ne]at h
    have hsc:s.length=c:=by omega
    rw[k1u (show 0<s.length by omega),Bool.and_true]at hGi
    refine z5 ?_
    refine z7 ⟨⟨136,[(0,.p (.sl 1 (z2 S))),(1,i64 1),(6,.p (.sl 1 R)),(8,i64 lg),(9,.msl 0 1 0 (z2 X).length),(10,.msl 1 1 0 (z2 Y).length),(11,i64 lf),(12,i64 ji),(13,i64 c)]⟩,[.row z0 1 (z2 X),.row z0 1 (z2 Y)]⟩ True (q8 hT ?_) (fun _=>?_)
    ·rw[show (((bx s).length:Nat):Int)=(c:Int) by omega]
     refine y4 (fun h=>?_) (fun h=>?_)
     ·have h:=k0q (show decide ((c:Int) > 4096)=true from h)
      omega
     refine y4 (fun h=>?_) (fun h=>?_)
     ·have h:=k0q (show decide (lg > 0)=true from h)
      have hgc:lg=c:=by omega
      rw[hgc]
      refine z4 (y4 (fun h=>?_) (fun h=>?_))
      ·have h:((c:Int) != (c:Int))=true:=h
       rw[bne_self_eq_false]at h;cases h
      exact z5 ⟨q7 [0,1] [0,1,6,8,9,10,11,12,13] rfl,trivial⟩
     ·refine z4 ?_
      exact z5 ⟨q7 [0,1] [0,1,6,8,9,10,11,12,13] rfl,trivial⟩
    refine q8 hT ?_
    refine y6 (fun st=>∃ lf':Int,lf'=((q+1:Nat):Int)∧st=⟨⟨136,[(0,.p (.sl 1 (z2 S))),(1,i64 1),(6,.p (.sl 1 R)),(8,i64 c),(9,.msl 0 1 0 (z2 X).length),(10,.msl 1 1 0 (z2 Y).length),(11,i64 lf'),(12,i64 ji)]⟩,[.row z0 1 (z2 X),.row z0 1 (z2 Y)]⟩) (q9 hT ?_) ?_
    ·exact⟨_,q7 [0,1] [0,1,6,8,9,10,11,12] rfl,IntKind.i64.wrap (lf+1),by rw[y8 _ (by omega) (by omega)];omega,rfl⟩
    rintro _ ⟨lf',hlf',rfl⟩
    refine q8 hT ?_
    refine z4 (y4 (fun h=>?_) (fun h=>?_))
    ·have h:=k0q (show decide ((((z2 X).length:Nat):Int)<((1:Nat):Int))=true from h)
     rw[k1u (show G.length<1 by omega)]at hGi
     have hGi:G1=G++[i]:=hGi
     refine q8 hT ?_
     refine⟨by omega,w9 hRp ?_⟩
     refine⟨rfl,⟨by show ((z2 X).length+1)*24≤_;omega,by show (z2 X).length+1≤_;omega⟩,?_⟩
     refine q9 hT ?_
     refine⟨by omega,w9 hsp ?_⟩
     refine⟨rfl,⟨by show ((z2 Y).length+1)*24≤_;omega,by show (z2 Y).length+1≤_;omega⟩,?_⟩
     refine⟨_,q7 [3,5] [0,1,6,8,9,10,11,12] rfl,q+1,lf',c,X++[ra],Y++[s],hlf',by omega,by rw[hGi,k1z,List.length_singleton];omega,.inr ⟨by omega,rfl⟩,by rw[hGi];exact hpR.symm,by rw[hGi];exact hpS.symm,?_⟩
     rw[Y1,Y1];rfl
    ·have h:=k0z (show decide ((((z2 X).length:Nat):Int)<((1:Nat):Int))=false from h)
     rw[k1t (show ¬ G.length<1 by omega)]at hGi
     have hGi:G1=G:=hGi
     exact z5 ⟨_,q7 [0,1] [0,1,6,8,9,10,11,12] rfl,q+1,lf',c,X,Y,hlf',by omega,by rw[hGi];omega,.inr ⟨by omega,rfl⟩,by rw[hGi];exact hX,by rw[hGi];exact hY,rfl⟩
   ·rintro _ ⟨q',lf',lg',X',Y',g1,g2,g3,g4,g5,g6,rfl⟩
    refine q9 hT ?_
    exact⟨n - 1,by omega,_,q7 [0,1] [0,1,6,8,9,10,11,12] rfl,i+1,q',IntKind.i64.wrap (ji+1),lf',lg',X',Y',by omega,by rw[y8 _ (by omega) (by omega)];omega,g1,g2,by rw[← hG1];exact g3,g4,by rw[← hG1];exact g5,by rw[← hG1];exact g6,rfl⟩
  ·have h:=k0z (show decide (ji<(((z2 S).length:Nat):Int))=false from h)
   rw[show i=1+m by omega]at hq hX hY
   refine x6 ?_
   exact⟨_,q7 [0,1] [0,1,8,9,10,11] rfl,q,lf,lg,X,Y,hlf,hq,hlg,hX.trans hRB.symm,hY.trans hSO.symm,rfl⟩
 rintro _ ⟨q,lf,lg,X,Y,hlf,hq,hlg,hX,hY,rfl⟩
 rw[hX,hY]
 refine u6 (Z6 9 0 _ rfl rfl rfl rfl) ?_
 refine u6 (Z6 10 1 _ rfl rfl rfl rfl) ?_
 clear wr hRg hGs hgl hG0 hRB hSO hrl hRc hRR
 refine z7 ⟨⟨136,[(0,.p (.sl 1 (z2 S))),(1,i64 1),(8,i64 lg),(9,.p (.sl 1 (z2 BY))),(10,.p (.sl 1 (z2 OF)))]⟩,[]⟩ (¬ (good (1+m)).length<1) (q8 hT ?_) ?_
 ·refine z4 (y4 (fun h=>?_) (fun h=>?_))
  ·have h:=k0q (show decide (lf<((1:Nat):Int))=true from h)
   rw[k1u (show (good (1+m)).length<1 by omega)]at eD
   refine q8 hT ?_
   refine u6 (q1a 4 1 rfl) ?_
   refine y9 ?_
   exact z9 [] ⟨([],9),eD.symm,rfl,rfl⟩ rfl
  ·have h:=k0z (show decide (lf<((1:Nat):Int))=false from h)
   exact z5 ⟨q7 [] [0,1,8,9,10] rfl,by omega⟩
 intro hGk
 rw[k1t hGk]at eD
 have eD:Z=(D++q1g D m c,0):=eD
 have hGk:(good (1+m)).length=1:=by omega
 have hlgc:lg=(c:Int):=by omega
 rw[hlgc]
 have wslv:=hslv hGk
 obtain⟨hOl,hOr,hDl,hDr,hDg⟩:=hD hGk
 clear hslv hD hq hlg hlf hGk
 obtain⟨dB,hdB⟩:∃ dB:Z3,dB=fun i=>D.getD i []:=⟨_,rfl⟩
 have hdl:∀ i,i<1→(dB i).length=c:=fun i hi=>by
  rw[hdB]
  show (D.getD i []).length=c
  rw[k0w,k0x (by omega)]
  exact hDr _ (k1x _)
 have hDg:∀ i,i<1→∀ p,p<c→(dB i)[p]?=(q4r 1 BY (OF.map fun s:z6=>s.getD p 0))[i]?:=fun i hi p hp=>by rw[hdB];exact hDg i hi p hp
 have hDe:D=[dB 0]:=by rw[hdB];exact w3j hDl
 clear hdB
 refine z7 ⟨⟨136,[(0,.p (.sl 1 (z2 S))),(1,i64 1),(8,i64 c),(9,.p (.sl 1 (z2 BY))),(10,.p (.sl 1 (z2 OF))),(14,.msl 0 1 0 1)]⟩,[.cells z0 [.msl 1 1 0 (bx ([])).length],.row z1 1 (bx ([]))]⟩ True (q9 hT ?_) (fun _=>?_)
 ·refine⟨⟨rfl,(show (0:Int)≤((1:Nat):Int) by decide),(show ((1:Nat):Int)*24≤140737488355328 by decide),(show ((1:Nat):Int)≤140737488355328 by decide)⟩,?_⟩
  exact⟨Wk.trans (W6 0 [.raw (.slice none 0 0)] rfl rfl (by decide)) (Wk.trans (Q2 z1 1) ((Wk.trans (V0 0 [.msl 1 1 0 0] rfl ⟨.inr (.inr (.inl ⟨1,1,0,rfl,rfl⟩)),trivial⟩) (q7 [0,1] [0,1,8,9,10,14] rfl)))),trivial⟩
 refine y6 (fun st=>∃ M:Z3,(∀ i,i<1→M i=dB i)∧st=⟨⟨136,[(0,.p (.sl 1 (z2 S))),(1,i64 1),(14,.msl 0 1 0 1)]⟩,[.cells z0 [.msl 1 1 0 (bx (M 0)).length],.row z1 1 (bx (M 0))]⟩) (q8 hT ?_) ?_
 ·refine z3 ?_
  refine y7 (fun n st=>∃ (p:Nat) (jp:Int) (M:Z3),n+p=c∧jp=p∧(∀ i,i<1→M i=(dB i).take p)∧st=⟨⟨136,[(0,.p (.sl 1 (z2 S))),(1,i64 1),(8,i64 c),(9,.p (.sl 1 (z2 BY))),(10,.p (.sl 1 (z2 OF))),(14,.msl 0 1 0 1),(15,i64 jp)]⟩,[.cells z0 [.msl 1 1 0 (bx (M 0)).length],.row z1 1 (bx (M 0))]⟩) c ⟨⟨136,_⟩,_⟩ (q7 [0,1] [0,1,8,9,10,14,15] rfl) ⟨0,0,fun _=>[],by omega,rfl,fun i _=>rfl,rfl⟩ ?_
  rintro n st ⟨p,jp,M,hnp,hjp,hM,rfl⟩
  refine z8 (q8 hT ?_)
  refine z4 (y4 (fun h=>?_) (fun h=>?_))
  ·have h:=k0q (show decide (jp<(c:Int))=true from h)
   have hp:p<c:=by omega
   refine z5 ?_
   have hpg:=fun i hi=>hDg i hi p hp
   have hcl:(OF.map fun s:z6=>s.getD p 0).length=1:=by rw[k1y];exact hOl
   have hcg:∀ (i:Nat) (s:z6),OF[i]?=some s→(OF.map fun s:z6=>s.getD p 0)[i]?=some (s.getD p 0):=fun i s h=>by rw[k1q,h];rfl
   generalize (OF.map fun s:z6=>s.getD p 0)=col at hpg hcl hcg
   have hsv:=wslv col hcl
   have hxl:=q5y 1 BY col
   generalize q4r 1 BY col=x at hsv hpg hxl
   have hxx:=w6 x
   refine y6 (fun st=>∃ M':Z3,(∀ i,i<1→M' i=(dB i).take (p+1))∧st=⟨⟨136,[(0,.p (.sl 1 (z2 S))),(1,i64 1),(8,i64 c),(9,.p (.sl 1 (z2 BY))),(10,.p (.sl 1 (z2 OF))),(14,.msl 0 1 0 1),(15,i64 jp)]⟩,[.cells z0 [.msl 1 1 0 (bx (M' 0)).length],.row z1 1 (bx (M' 0))]⟩) (z3 ?_) ?_
   ·refine z7 ⟨⟨136,[(0,.p (.sl 1 (z2 S))),(1,i64 1),(8,i64 c),(9,.p (.sl 1 (z2 BY))),(10,.p (.sl 1 (z2 OF))),(14,.msl 0 1 0 1),(15,i64 jp),(16,.msl 2 1 0 0)]⟩,[.cells z0 [.msl 1 1 0 (bx (M 0)).length],.row z1 1 (bx (M 0)),.row z1 1 (bx [])]⟩ True (q9 hT ?_) (fun _=>?_)
    ·exact⟨Wk.trans (Q2 z1 1) (Wk.trans (V6 16 2 1 0 rfl) (q7 [0,1,2] [0,1,8,9,10,14,15,16] rfl)),trivial⟩
    refine y6 (fun st=>∃ W,W=col∧st=⟨⟨136,[(0,.p (.sl 1 (z2 S))),(1,i64 1),(8,i64 c),(9,.p (.sl 1 (z2 BY))),(10,.p (.sl 1 (z2 OF))),(14,.msl 0 1 0 1),(15,i64 jp),(16,.msl 2 1 0 (bx W).length)]⟩,[.cells z0 [.msl 1 1 0 (bx (M 0)).length],.row z1 1 (bx (M 0)),.row z1 1 (bx W)]⟩) (q8 hT ?_) ?_
    ·refine z3 ?_
     refine y7 (fun n st=>∃ (i:Nat) (ji:Int) (W:z6),n+i=1∧ji=i∧W=col.take i∧st=⟨⟨136,[(0,.p (.sl 1 (z2 S))),(1,i64 1),(8,i64 c),(9,.p (.sl 1 (z2 BY))),(10,.p (.sl 1 (z2 OF))),(14,.msl 0 1 0 1),(15,i64 jp),(16,.msl 2 1 0 (bx W).length),(17,i64 ji)]⟩,[.cells z0 [.msl 1 1 0 (bx (M 0)).length],.row z1 1 (bx (M 0)),.row z1 1 (bx W)]⟩) 1 ⟨⟨136,_⟩,_⟩ (q7 [0,1,2] [0,1,8,9,10,14,15,16,17] rfl) ⟨0,0,[],rfl,rfl,rfl,rfl⟩ ?_
     rintro n2 st ⟨i,ji,W,hni,hji,hW,rfl⟩
     refine z8 (q8 hT ?_)
     refine z4 (y4 (fun h=>?_) (fun h=>?_))
     ·have h:=k0q (show decide (ji<((1:Nat):Int))=true from h)
      have hi:i<OF.length:=by omega
      refine z5 ?_
      have hs:=k0x hi
      have hsl:=hOr _ (k1x hi)
      generalize OF[i]=s at hs hsl
      have hv:=hcg i s hs
      have hsp:(z2 OF)[ji.toNat]?=some [bP s]:=by rw[hji,k0v];exact Q0 hs
      have hvp:(bx s)[jp.toNat]?=some [u8 (s.getD p 0)]:=by rw[hjp,k0v];exact u7 (Q3 (by omega))
      generalize s.getD p 0=v at hv hvp
      have hWl:(bx W).length≤1:=by rw[w6,hW,k2u];omega
      have hW1:col.take (i+1)=W++[v]:=by rw[k2t,hv,hW];rfl
      refine y6 (fun st=>∃ W',W'=W++[v]∧st=⟨⟨136,[(0,.p (.sl 1 (z2 S))),(1,i64 1),(8,i64 c),(9,.p (.sl 1 (z2 BY))),(10,.p (.sl 1 (z2 OF))),(14,.msl 0 1 0 1),(15,i64 jp),(16,.msl 2 1 0 (bx W').length),(17,i64 ji)]⟩,[.cells z0 [.msl 1 1 0 (bx (M 0)).length],.row z1 1 (bx (M 0)),.row z1 1 (bx W')]⟩) (z3 (q9 hT ?_)) ?_
      ·refine⟨by omega,w9 hsp ?_⟩
       refine⟨by omega,w9 hvp ?_⟩
       refine⟨rfl,⟨by show ((bx W).length+1)*1≤_;omega,by show (bx W).length+1≤_;omega⟩,?_⟩
       refine⟨_,q7 [0,1,4] [0,1,8,9,10,14,15,16,17] rfl,_,rfl,?_⟩
       rw[Y9];rfl
      ·rintro _ ⟨W',hW',rfl⟩
       refine q9 hT ?_
       exact⟨n2 - 1,by omega,_,q7 [0,1,2] [0,1,8,9,10,14,15,16,17] rfl,i+1,IntKind.i64.wrap (ji+1),W',by omega,by rw[y8 _ (by omega) (by omega)];omega,by rw[hW1];exact hW',rfl⟩
     ·have h:=k0z (show decide (ji<((1:Nat):Int))=false from h)
      rw[k2z (by omega)]at hW
      refine x6 ?_
      exact⟨_,q7 [0,1,2] [0,1,8,9,10,14,15,16] rfl,W,hW,rfl⟩
    rintro _ ⟨W,hW,rfl⟩
    rw[← hW]at hsv
    clear hcg hcl hW
    refine u6 (Z6 16 2 _ rfl rfl rfl rfl) ?_
    refine z7 ⟨⟨136,[(0,.p (.sl 1 (z2 S))),(1,i64 1),(8,i64 c),(9,.p (.sl 1 (z2 BY))),(10,.p (.sl 1 (z2 OF))),(14,.msl 0 1 0 1),(15,i64 jp),(18,bA x)]⟩,[.cells z0 [.msl 1 1 0 (bx (M 0)).length],.row z1 1 (bx (M 0))]⟩ True (q9 hT ?_) (fun _=>?_)
    ·refine x7 (w7 hsv _ rfl rfl) ?_
     exact⟨q7 [0,1] [0,1,8,9,10,14,15,18] rfl,trivial⟩
    refine q8 hT ?_
    refine z3 ?_
    refine y7 (fun n st=>∃ (i:Nat) (ji:Int) (N:Z3),n+i=1∧ji=i∧(∀ j,j<1→N j=(dB j).take (if j<i then p+1 else p))∧st=⟨⟨136,[(0,.p (.sl 1 (z2 S))),(1,i64 1),(8,i64 c),(9,.p (.sl 1 (z2 BY))),(10,.p (.sl 1 (z2 OF))),(14,.msl 0 1 0 1),(15,i64 jp),(18,bA x),(19,i64 ji)]⟩,[.cells z0 [.msl 1 1 0 (bx (N 0)).length],.row z1 1 (bx (N 0))]⟩) 1 ⟨⟨136,_⟩,_⟩ (q7 [0,1] [0,1,8,9,10,14,15,18,19] rfl) ⟨0,0,M,rfl,rfl,fun j hj=>by rw[if_neg (by omega)];exact hM j hj,rfl⟩ ?_
    rintro n2 st ⟨i,ji,N,hni,hji,hN,rfl⟩
    refine z8 (q8 hT ?_)
    refine z4 (y4 (fun h=>?_) (fun h=>?_))
    ·have h:=k0q (show decide (ji<((1:Nat):Int))=true from h)
     have hi4:i=0:=by omega
     subst hji
     refine z5 ?_
     refine y6 (fun st=>∃ N':Z3,(∀ j,j<1→N' j=(dB j).take (if j<i+1 then p+1 else p))∧st=⟨⟨136,[(0,.p (.sl 1 (z2 S))),(1,i64 1),(8,i64 c),(9,.p (.sl 1 (z2 BY))),(10,.p (.sl 1 (z2 OF))),(14,.msl 0 1 0 1),(15,i64 jp),(18,bA x),(19,i64 i)]⟩,[.cells z0 [.msl 1 1 0 (bx (N' 0)).length],.row z1 1 (bx (N' 0))]⟩) (z3 ?_) ?_
     ·let I:=i
      have hI:I<1:=by show i<1;omega
      have hN:∀ j,j<1→N j=(dB j).take (if j<I then p+1 else p):=hN
      rcases hi4 with rfl
      all_goals
       have hxi:=hpg I hI
       have hxg:=Q3 (l:=x) (c:=I) (by omega)
       rw[hxg]at hxi
       generalize x.getD I 0=v at hxg hxi
       have hxp:(bx x)[((I:Nat):Int).toNat]?=some [u8 v]:=u7 hxg
       have hNi:=hN I hI
       rw[if_neg (Nat.lt_irrefl I)]at hNi
       have hNl:(bx (N I)).length≤4096:=by rw[w6,hNi,k2u];omega
       have hN1:(dB I).take (p+1)=N I++[v]:=by rw[k2t,hxi,hNi];rfl
       refine v7 [11,13] [10] hT y5 (by rfl) ?_
       refine⟨by omega,?_⟩
       refine⟨by omega,w9 hxp ?_⟩
       refine⟨⟨rfl,rfl⟩,?_⟩
       refine⟨rfl,⟨by show ((bx (N I)).length+1)*1≤_;omega,by show (bx (N I)).length+1≤_;omega⟩,?_⟩
       refine⟨by omega,?_⟩
       repeat first|refine⟨rfl,?_⟩|refine⟨⟨by omega,rfl⟩,?_⟩|refine⟨⟨by omega,w9 hxp rfl⟩,?_⟩
       refine⟨_,q7 [0,pkI I 2 0] [0,1,8,9,10,14,15,18,19] rfl,U5 N I (N I++[v]),fun j hj=>?_,?_⟩
       ·rw[q0h]
        show (if j=I then _ else _)=(dB j).take (if j<I+1 then p+1 else p)
        by_cases e:j=I
        ·rw[if_pos e,e,if_pos (Nat.lt_succ_self I)];exact hN1.symm
        ·rw[if_neg e,hN j hj]
         by_cases e2:j<I
         ·rw[if_pos e2,if_pos (by omega)]
         ·rw[if_neg e2,if_neg (by omega)]
       ·rw[show bx (U5 N I (N I++[v]) I)=bx (N I)++[[u8 v]] by rw[q0h,if_pos rfl];exact Y9 _ _];rfl
     ·rintro _ ⟨N',hN',rfl⟩
      refine q9 hT ?_
      exact⟨n2 - 1,by omega,_,q7 [0,1] [0,1,8,9,10,14,15,18,19] rfl,i+1,IntKind.i64.wrap ((i:Int)+1),N',by omega,by rw[y8 _ (by omega) (by omega)];rfl,hN',rfl⟩
    ·have h:=k0z (show decide (ji<((1:Nat):Int))=false from h)
     refine x6 ?_
     exact⟨_,q7 [0,1] [0,1,8,9,10,14,15] rfl,N,fun j hj=>by rw[hN j hj,if_pos (by omega)],rfl⟩
   ·rintro _ ⟨M',hM',rfl⟩
    refine q9 hT ?_
    exact⟨n - 1,by omega,_,q7 [0,1] [0,1,8,9,10,14,15] rfl,p+1,IntKind.i64.wrap (jp+1),M',by omega,by rw[y8 _ (by omega) (by omega)];omega,hM',rfl⟩
  ·have h:=k0z (show decide (jp<(c:Int))=false from h)
   refine x6 ?_
   exact⟨_,q7 [0,1] [0,1,14] rfl,M,fun i hi=>by rw[hM i hi,k2z (by rw[hdl i hi];omega)],rfl⟩
 rintro _ ⟨M,hM,rfl⟩
 rw[← hM 0 (by decide)]at hDe
 have we:=q5h D m c (by omega) m1 (by omega) c1 c2 hDr
 have hEl:=q3b D m c
 clear hdl hDg hM wslv hDr hDl
 subst hDe
 generalize q1g [M 0] m c=E at we hEl eD
 rw[← hm]at we
 have we:AFm Tryz.prog 1 q1y [.msl 0 1 0 1,i64 (IntKind.i64.wrap ((((z2 S).length:Nat):Int) - ((1:Nat):Int)))] [.row z0 1 (z2 [M 0])] (v8 (.tup [.p (.sl 1 (z2 E)),i64 0]) [.row z0 1 (z2 [M 0])]):=we
 have hEc:=u5 E
 refine u6 (Wk.trans (X2 1 0 0 _ rfl rfl rfl rfl) (Wk.trans (U3 0 [bP (M 0)] rfl rfl (show 1≤140737488355328 by decide)) (q7 [0] [0,1,14] rfl))) ?_
 refine z7 ⟨⟨136,[(14,.msl 0 1 0 1),(20,.p (.sl 1 (z2 E)))]⟩,[.row z0 1 (z2 [M 0])]⟩ True (q9 hT ?_) (fun _=>?_)
 ·refine x7 (Q7 [0] we rfl rfl rfl) ?_
  exact⟨q7 [0] [14,20] rfl,trivial⟩
 refine q8 hT ?_
 refine⟨rfl,⟨by show (1+(z2 E).length)*24≤_;omega,by show 1+(z2 E).length≤_;omega⟩,?_⟩
 refine u6 (Z6 4 1 _ rfl rfl rfl rfl) ?_
 refine y9 ?_
 exact z9 [] ⟨([M 0]++E,0),eD.symm,(by show AV.tup [.p (.sl 1 (z2 [M 0]++z2 E)),i64 0]=_;rw[← Y1]),rfl⟩ rfl
theorem y9z (S:List z6)(m c:Nat)(m1:1≤m)(m3:m≤3)(c1:1≤c)(c2:c≤4096)(hl:S.length=2+m)(hS:∀ s∈S,s.length=0∨s.length=c) :
 AF Tryz.prog q1z [.p (.sl 1 (z2 S)),i64 2] [] (v8 (.tup [.p (.sl 1 (z2 (J9 S 2 m c).1)),i64 (J9 S 2 m c).2]) []):=by
 refine AF.mono (R:=fun r H'=>∃ z,z=J9 S 2 m c∧r=.tup [.p (.sl 1 (z2 z.1)),i64 z.2]∧H'=[]) ?_ (by rintro r H' ⟨z,rfl,rfl,rfl⟩;exact⟨rfl,rfl⟩)
 have eD:J9 S 2 m c=match decide ((Q6 S 2 (2+m)).length<2) with
  |true=>([],9)
  |false=>(W9 S 2 m c++q1g (W9 S 2 m c) m c,0):=rfl
 have hcl:=u5 S
 have hm:IntKind.i64.wrap ((((z2 S).length:Nat):Int) - ((2:Nat):Int))=(m:Int):=by rw[y8 _ (by omega) (by omega)];omega
 have wr:=q7u 2 m (by decide) m1 (by omega)
 have hrl:=q3s 2 m
 have hRB:byB S 2 m=X3 (Y5 2 m) (Q6 S 2 (2+m)):=rfl
 have hSO:ofB S 2 m=X3 S (Q6 S 2 (2+m)):=rfl
 have hGs:∀ i,Q6 S 2 (i+1)=match decide ((Q6 S 2 i).length<2)&&decide (0<(S.getD i []).length) with
  |true=>Q6 S 2 i++[i]
  |false=>Q6 S 2 i:=fun i=>rfl
 have hgl:=fun i=>q1u S 2 i
 have hG0:Q6 S 2 0=[]:=rfl
 have hD:=z8s S m c m1 m3 hl hS (r:=2)
 have hslv:(Q6 S 2 (2+m)).length=2→∀ Y:z6,Y.length=2→AF Tryz.prog J3 [.p (.sl 1 (z2 (byB S 2 m))),bA Y] [] (v8 (bA (q4r 2 (byB S 2 m) Y)) []):=fun hg Y hY=>by
  have hbl:=q6s hg
  have hbr:=z3z (S:=S) (k:=2) (m:=m)
  have hbk:=q6x (by omega) hg
  generalize byB S 2 m=B at hbl hbr hbk ⊢
  rw[w3k hbl]at hbr hbk ⊢
  exact y9x (B.getD 0 []) (B.getD 1 []) Y hbr hbk hY
 rw[← hm]at wr
 generalize J9 S 2 m c=Z at eD
 generalize byB S 2 m=BY at hRB hslv hD
 generalize ofB S 2 m=OF at hSO hD
 generalize W9 S 2 m c=D at eD hD
 have hRc:=u5 (Y5 2 m)
 have hRg:=fun(i:Nat) (hi:i<2+m)=>Q0 (q9t (l:=Y5 2 m) (i:=i) (by rw[hrl];exact hi))
 generalize Y5 2 m=RB at wr hRg hRB hrl hRc
 generalize hRR:z2 RB=R at wr hRg hRc
 generalize Q6 S 2=good at eD hRB hSO hGs hgl hG0 hD hslv
 refine v6 hT q4f rfl rfl q4g rfl ?_
 refine q8 hT ?_
 refine z7 ⟨⟨136,[(0,.p (.sl 1 (z2 S))),(1,i64 2),(6,.p (.sl 1 R)),(7,i64 0)]⟩,[]⟩ True (q9 hT ?_) (fun _=>?_)
 ·refine x7 (w7 wr _ rfl rfl) ?_
  exact⟨q7 [] [0,1,6,7] rfl,trivial⟩
 refine z8 (q8 hT ?_)
 refine z4 ?_
 refine z5 ?_
 refine q8 hT ?_
 refine q8 hT ?_
 refine q8 hT ?_
 refine z7 ⟨⟨136,[(0,.p (.sl 1 (z2 S))),(1,i64 2),(6,.p (.sl 1 R)),(8,i64 0),(9,.msl 0 1 0 (z2 []).length),(10,.msl 1 1 0 (z2 []).length),(11,i64 0)]⟩,[.row z0 1 (z2 []),.row z0 1 (z2 [])]⟩ True (q9 hT ?_) (fun _=>?_)
 ·exact⟨Wk.trans (Q2 z0 1) (Wk.trans (Q2 z0 1) (Wk.trans (V6 9 0 1 0 rfl) (Wk.trans (V6 10 1 1 0 rfl) (q7 [0,1] [0,1,6,8,9,10,11] rfl)))),trivial⟩
 refine y6 (fun st=>∃ (q:Nat) (lf lg:Int) (X Y:List z6),lf=q∧(good (2+m)).length=min q 2∧((q=0∧lg=0)∨(0<q∧lg=c))∧X=BY∧Y=OF∧st=⟨⟨136,[(0,.p (.sl 1 (z2 S))),(1,i64 2),(8,i64 lg),(9,.msl 0 1 0 (z2 X).length),(10,.msl 1 1 0 (z2 Y).length),(11,i64 lf)]⟩,[.row z0 1 (z2 X),.row z0 1 (z2 Y)]⟩) (q8 hT ?_) ?_
 ·refine z3 ?_
  refine y7 (fun n st=>∃ (i q:Nat) (ji lf lg:Int) (X Y:List z6),n+i=2+m∧ji=i∧lf=q∧q≤i∧(good i).length=min q 2∧((q=0∧lg=0)∨(0<q∧lg=c))∧X=X3 RB (good i)∧Y=X3 S (good i)∧st=⟨⟨136,[(0,.p (.sl 1 (z2 S))),(1,i64 2),(6,.p (.sl 1 R)),(8,i64 lg),(9,.msl 0 1 0 (z2 X).length),(10,.msl 1 1 0 (z2 Y).length),(11,i64 lf),(12,i64 ji)]⟩,[.row z0 1 (z2 X),.row z0 1 (z2 Y)]⟩) (2+m) ⟨⟨136,_⟩,_⟩ (q7 [0,1] [0,1,6,8,9,10,11,12] rfl) ⟨0,0,0,0,0,[],[],by omega,rfl,rfl,k1w _,by rw[hG0];rfl,.inl ⟨rfl,rfl⟩,by rw[hG0];rfl,by rw[hG0];rfl,rfl⟩ ?_
  rintro n st ⟨i,q,ji,lf,lg,X,Y,hni,hji,hlf,hqi,hq,hlg,hX,hY,rfl⟩
  refine z8 (q8 hT ?_)
  refine z4 (y4 (fun h=>?_) (fun h=>?_))
  ·have h:=k0q (show decide (ji<(((z2 S).length:Nat):Int))=true from h)
   have hi:i<S.length:=by omega
   refine z5 ?_
   have hs:=k0x hi
   have hsl:=hS _ (k1x hi)
   have hGi:=hGs i
   rw[getD_some hs]at hGi
   have hpS:X3 S (good i++[i])=X3 S (good i)++[S[i]]:=q3v (getD_some hs)
   generalize S[i]=s at hs hsl hGi hpS
   have hpR:X3 RB (good i++[i])=X3 RB (good i)++[RB.getD i []]:=q3v rfl
   have hRp:=hRg i (by omega)
   generalize RB.getD i []=ra at hRp hpR
   rw[show i=ji.toNat by omega]at hRp
   have hsp:(z2 S)[ji.toNat]?=some [bP s]:=by rw[hji,k0v];exact Q0 hs
   have hbs:=w6 s
   have hGl:=hgl i
   have hXl:(z2 X).length=(good i).length:=by rw[u5,hX,X3,k1y]
   have hYl:(z2 Y).length=(good i).length:=by rw[u5,hY,X3,k1y]
   rw[← hX]at hpR
   rw[← hY]at hpS
   generalize good i=G at *
   obtain⟨G1,hG1⟩:∃ G1,G1=good (i+1):=⟨_,rfl⟩
   rw[← hG1]at hGi
   refine y6 (fun st=>∃ (q':Nat) (lf' lg':Int) (X' Y':List z6),lf'=q'∧q'≤i+1∧G1.length=min q' 2∧((q'=0∧lg'=0)∨(0<q'∧lg'=c))∧X'=X3 RB G1∧Y'=X3 S G1∧st=⟨⟨136,[(0,.p (.sl 1 (z2 S))),(1,i64 2),(6,.p (.sl 1 R)),(8,i64 lg'),(9,.msl 0 1 0 (z2 X').length),(10,.msl 1 1 0 (z2 Y').length),(11,i64 lf'),(12,i64 ji)]⟩,[.row z0 1 (z2 X'),.row z0 1 (z2 Y')]⟩) (z3 (q8 hT ?_)) ?_
   ·refine⟨by omega,w9 hsp ?_⟩
    refine z8 (q8 hT ?_)
    refine z4 (y4 (fun h=>?_) (fun h=>?_))
    ·have h:((((bx s).length:Nat):Int)==0)=true:=h
     rw[beq_iff_eq]at h
     rw[k1t (show ¬ 0<s.length by omega),Bool.and_false]at hGi
     have hGi:G1=G:=hGi
     refine x6 ?_
     exact⟨_,q7 [0,1] [0,1,6,8,9,10,11,12] rfl,q,lf,lg,X,Y,hlf,by omega,by rw[hGi];exact hq,hlg,by rw[hGi];exact hX,by rw[hGi];exact hY,rfl⟩
    have h:((((bx s).length:Nat):Int)==0)=false:=h
    rw[beq_eq_false_iff_ne]at h
    have hsc:s.length=c:=by omega
    rw[k1u (show 0<s.length by omega),Bool.and_true]at hGi
    refine z5 ?_
    refine z7 ⟨⟨136,[(0,.p (.sl 1 (z2 S))),(1,i64 2),(6,.p (.sl 1 R)),(8,i64 lg),(9,.msl 0 1 0 (z2 X).length),(10,.msl 1 1 0 (z2 Y).length),(11,i64 lf),(12,i64 ji),(13,i64 c)]⟩,[.row z0 1 (z2 X),.row z0 1 (z2 Y)]⟩ True (q8 hT ?_) (fun _=>?_)
    ·rw[show (((bx s).length:Nat):Int)=(c:Int) by omega]
     refine y4 (fun h=>?_) (fun h=>?_)
     ·have h:=k0q (show decide ((c:Int) > 4096)=true from h)
      omega
     refine y4 (fun h=>?_) (fun h=>?_)
     ·have h:=k0q (show decide (lg > 0)=true from h)
      have hgc:lg=c:=by omega
      rw[hgc]
      refine z4 (y4 (fun h=>?_) (fun h=>?_))
      ·have h:((c:Int) != (c:Int))=true:=h
       rw[bne_self_eq_false]at h;cases h
      exact z5 ⟨q7 [0,1] [0,1,6,8,9,10,11,12,13] rfl,trivial⟩
     ·refine z4 ?_
      exact z5 ⟨q7 [0,1] [0,1,6,8,9,10,11,12,13] rfl,trivial⟩
    refine q8 hT ?_
    refine y6 (fun st=>∃ lf':Int,lf'=((q+1:Nat):Int)∧st=⟨⟨136,[(0,.p (.sl 1 (z2 S))),(1,i64 2),(6,.p (.sl 1 R)),(8,i64 c),(9,.msl 0 1 0 (z2 X).length),(10,.msl 1 1 0 (z2 Y).length),(11,i64 lf'),(12,i64 ji)]⟩,[.row z0 1 (z2 X),.row z0 1 (z2 Y)]⟩) (q9 hT ?_) ?_
    ·exact⟨_,q7 [0,1] [0,1,6,8,9,10,11,12] rfl,IntKind.i64.wrap (lf+1),by rw[y8 _ (by omega) (by omega)];omega,rfl⟩
    rintro _ ⟨lf',hlf',rfl⟩
    refine q8 hT ?_
    refine z4 (y4 (fun h=>?_) (fun h=>?_))
    ·have h:=k0q (show decide ((((z2 X).length:Nat):Int)<((2:Nat):Int))=true from h)
     rw[k1u (show G.length<2 by omega)]at hGi
     have hGi:G1=G++[i]:=hGi
     refine q8 hT ?_
     refine⟨by omega,w9 hRp ?_⟩
     refine⟨rfl,⟨by show ((z2 X).length+1)*24≤_;omega,by show (z2 X).length+1≤_;omega⟩,?_⟩
     refine q9 hT ?_
     refine⟨by omega,w9 hsp ?_⟩
     refine⟨rfl,⟨by show ((z2 Y).length+1)*24≤_;omega,by show (z2 Y).length+1≤_;omega⟩,?_⟩
     refine⟨_,q7 [3,5] [0,1,6,8,9,10,11,12] rfl,q+1,lf',c,X++[ra],Y++[s],hlf',by omega,by rw[hGi,k1z,List.length_singleton];omega,.inr ⟨by omega,rfl⟩,by rw[hGi];exact hpR.symm,by rw[hGi];exact hpS.symm,?_⟩
     rw[Y1,Y1];rfl
    ·have h:=k0z (show decide ((((z2 X).length:Nat):Int)<((2:Nat):Int))=false from h)
     rw[k1t (show ¬ G.length<2 by omega)]at hGi
     have hGi:G1=G:=hGi
     exact z5 ⟨_,q7 [0,1] [0,1,6,8,9,10,11,12] rfl,q+1,lf',c,X,Y,hlf',by omega,by rw[hGi];omega,.inr ⟨by omega,rfl⟩,by rw[hGi];exact hX,by rw[hGi];exact hY,rfl⟩
   ·rintro _ ⟨q',lf',lg',X',Y',g1,g2,g3,g4,g5,g6,rfl⟩
    refine q9 hT ?_
    exact⟨n - 1,by omega,_,q7 [0,1] [0,1,6,8,9,10,11,12] rfl,i+1,q',IntKind.i64.wrap (ji+1),lf',lg',X',Y',by omega,by rw[y8 _ (by omega) (by omega)];omega,g1,g2,by rw[← hG1];exact g3,g4,by rw[← hG1];exact g5,by rw[← hG1];exact g6,rfl⟩
  ·have h:=k0z (show decide (ji<(((z2 S).length:Nat):Int))=false from h)
   rw[show i=2+m by omega]at hq hX hY
   refine x6 ?_
   exact⟨_,q7 [0,1] [0,1,8,9,10,11] rfl,q,lf,lg,X,Y,hlf,hq,hlg,hX.trans hRB.symm,hY.trans hSO.symm,rfl⟩
 rintro _ ⟨q,lf,lg,X,Y,hlf,hq,hlg,hX,hY,rfl⟩
 rw[hX,hY]
 refine u6 (Z6 9 0 _ rfl rfl rfl rfl) ?_
 refine u6 (Z6 10 1 _ rfl rfl rfl rfl) ?_
 clear wr hRg hGs hgl hG0 hRB hSO hrl hRc hRR
 refine z7 ⟨⟨136,[(0,.p (.sl 1 (z2 S))),(1,i64 2),(8,i64 lg),(9,.p (.sl 1 (z2 BY))),(10,.p (.sl 1 (z2 OF)))]⟩,[]⟩ (¬ (good (2+m)).length<2) (q8 hT ?_) ?_
 ·refine z4 (y4 (fun h=>?_) (fun h=>?_))
  ·have h:=k0q (show decide (lf<((2:Nat):Int))=true from h)
   rw[k1u (show (good (2+m)).length<2 by omega)]at eD
   refine q8 hT ?_
   refine u6 (q1a 4 1 rfl) ?_
   refine y9 ?_
   exact z9 [] ⟨([],9),eD.symm,rfl,rfl⟩ rfl
  ·have h:=k0z (show decide (lf<((2:Nat):Int))=false from h)
   exact z5 ⟨q7 [] [0,1,8,9,10] rfl,by omega⟩
 intro hGk
 rw[k1t hGk]at eD
 have eD:Z=(D++q1g D m c,0):=eD
 have hGk:(good (2+m)).length=2:=by omega
 have hlgc:lg=(c:Int):=by omega
 rw[hlgc]
 have wslv:=hslv hGk
 obtain⟨hOl,hOr,hDl,hDr,hDg⟩:=hD hGk
 clear hslv hD hq hlg hlf hGk
 obtain⟨dB,hdB⟩:∃ dB:Z3,dB=fun i=>D.getD i []:=⟨_,rfl⟩
 have hdl:∀ i,i<2→(dB i).length=c:=fun i hi=>by
  rw[hdB]
  show (D.getD i []).length=c
  rw[k0w,k0x (by omega)]
  exact hDr _ (k1x _)
 have hDg:∀ i,i<2→∀ p,p<c→(dB i)[p]?=(q4r 2 BY (OF.map fun s:z6=>s.getD p 0))[i]?:=fun i hi p hp=>by rw[hdB];exact hDg i hi p hp
 have hDe:D=[dB 0,dB 1]:=by rw[hdB];exact w3k hDl
 clear hdB
 refine z7 ⟨⟨136,[(0,.p (.sl 1 (z2 S))),(1,i64 2),(8,i64 c),(9,.p (.sl 1 (z2 BY))),(10,.p (.sl 1 (z2 OF))),(14,.msl 0 1 0 2)]⟩,[.cells z0 [.msl 1 1 0 (bx ([])).length,.msl 2 1 0 (bx ([])).length],.row z1 1 (bx ([])),.row z1 1 (bx ([]))]⟩ True (q9 hT ?_) (fun _=>?_)
 ·refine⟨⟨rfl,(show (0:Int)≤((2:Nat):Int) by decide),(show ((2:Nat):Int)*24≤140737488355328 by decide),(show ((2:Nat):Int)≤140737488355328 by decide)⟩,?_⟩
  exact⟨Wk.trans (W6 0 [.raw (.slice none 0 0),.raw (.slice none 0 0)] rfl rfl (by decide)) (Wk.trans (Q2 z1 1) (Wk.trans (Q2 z1 1) ((Wk.trans (V0 0 [.msl 1 1 0 0,.msl 2 1 0 0] rfl ⟨.inr (.inr (.inl ⟨1,1,0,rfl,rfl⟩)),⟨.inr (.inr (.inl ⟨2,1,0,rfl,rfl⟩)),trivial⟩⟩) (q7 [0,1,2] [0,1,8,9,10,14] rfl))))),trivial⟩
 refine y6 (fun st=>∃ M:Z3,(∀ i,i<2→M i=dB i)∧st=⟨⟨136,[(0,.p (.sl 1 (z2 S))),(1,i64 2),(14,.msl 0 1 0 2)]⟩,[.cells z0 [.msl 1 1 0 (bx (M 0)).length,.msl 2 1 0 (bx (M 1)).length],.row z1 1 (bx (M 0)),.row z1 1 (bx (M 1))]⟩) (q8 hT ?_) ?_
 ·refine z3 ?_
  refine y7 (fun n st=>∃ (p:Nat) (jp:Int) (M:Z3),n+p=c∧jp=p∧(∀ i,i<2→M i=(dB i).take p)∧st=⟨⟨136,[(0,.p (.sl 1 (z2 S))),(1,i64 2),(8,i64 c),(9,.p (.sl 1 (z2 BY))),(10,.p (.sl 1 (z2 OF))),(14,.msl 0 1 0 2),(15,i64 jp)]⟩,[.cells z0 [.msl 1 1 0 (bx (M 0)).length,.msl 2 1 0 (bx (M 1)).length],.row z1 1 (bx (M 0)),.row z1 1 (bx (M 1))]⟩) c ⟨⟨136,_⟩,_⟩ (q7 [0,1,2] [0,1,8,9,10,14,15] rfl) ⟨0,0,fun _=>[],by omega,rfl,fun i _=>rfl,rfl⟩ ?_
  rintro n st ⟨p,jp,M,hnp,hjp,hM,rfl⟩
  refine z8 (q8 hT ?_)
  refine z4 (y4 (fun h=>?_) (fun h=>?_))
  ·have h:=k0q (show decide (jp<(c:Int))=true from h)
   have hp:p<c:=by omega
   refine z5 ?_
   have hpg:=fun i hi=>hDg i hi p hp
   have hcl:(OF.map fun s:z6=>s.getD p 0).length=2:=by rw[k1y];exact hOl
   have hcg:∀ (i:Nat) (s:z6),OF[i]?=some s→(OF.map fun s:z6=>s.getD p 0)[i]?=some (s.getD p 0):=fun i s h=>by rw[k1q,h];rfl
   generalize (OF.map fun s:z6=>s.getD p 0)=col at hpg hcl hcg
   have hsv:=wslv col hcl
   have hxl:=q5y 2 BY col
   generalize q4r 2 BY col=x at hsv hpg hxl
   have hxx:=w6 x
   refine y6 (fun st=>∃ M':Z3,(∀ i,i<2→M' i=(dB i).take (p+1))∧st=⟨⟨136,[(0,.p (.sl 1 (z2 S))),(1,i64 2),(8,i64 c),(9,.p (.sl 1 (z2 BY))),(10,.p (.sl 1 (z2 OF))),(14,.msl 0 1 0 2),(15,i64 jp)]⟩,[.cells z0 [.msl 1 1 0 (bx (M' 0)).length,.msl 2 1 0 (bx (M' 1)).length],.row z1 1 (bx (M' 0)),.row z1 1 (bx (M' 1))]⟩) (z3 ?_) ?_
   ·refine z7 ⟨⟨136,[(0,.p (.sl 1 (z2 S))),(1,i64 2),(8,i64 c),(9,.p (.sl 1 (z2 BY))),(10,.p (.sl 1 (z2 OF))),(14,.msl 0 1 0 2),(15,i64 jp),(16,.msl 3 1 0 0)]⟩,[.cells z0 [.msl 1 1 0 (bx (M 0)).length,.msl 2 1 0 (bx (M 1)).length],.row z1 1 (bx (M 0)),.row z1 1 (bx (M 1)),.row z1 1 (bx [])]⟩ True (q9 hT ?_) (fun _=>?_)
    ·exact⟨Wk.trans (Q2 z1 1) (Wk.trans (V6 16 3 1 0 rfl) (q7 [0,1,2,3] [0,1,8,9,10,14,15,16] rfl)),trivial⟩
    refine y6 (fun st=>∃ W,W=col∧st=⟨⟨136,[(0,.p (.sl 1 (z2 S))),(1,i64 2),(8,i64 c),(9,.p (.sl 1 (z2 BY))),(10,.p (.sl 1 (z2 OF))),(14,.msl 0 1 0 2),(15,i64 jp),(16,.msl 3 1 0 (bx W).length)]⟩,[.cells z0 [.msl 1 1 0 (bx (M 0)).length,.msl 2 1 0 (bx (M 1)).length],.row z1 1 (bx (M 0)),.row z1 1 (bx (M 1)),.row z1 1 (bx W)]⟩) (q8 hT ?_) ?_
    ·refine z3 ?_
     refine y7 (fun n st=>∃ (i:Nat) (ji:Int) (W:z6),n+i=2∧ji=i∧W=col.take i∧st=⟨⟨136,[(0,.p (.sl 1 (z2 S))),(1,i64 2),(8,i64 c),(9,.p (.sl 1 (z2 BY))),(10,.p (.sl 1 (z2 OF))),(14,.msl 0 1 0 2),(15,i64 jp),(16,.msl 3 1 0 (bx W).length),(17,i64 ji)]⟩,[.cells z0 [.msl 1 1 0 (bx (M 0)).length,.msl 2 1 0 (bx (M 1)).length],.row z1 1 (bx (M 0)),.row z1 1 (bx (M 1)),.row z1 1 (bx W)]⟩) 2 ⟨⟨136,_⟩,_⟩ (q7 [0,1,2,3] [0,1,8,9,10,14,15,16,17] rfl) ⟨0,0,[],rfl,rfl,rfl,rfl⟩ ?_
     rintro n2 st ⟨i,ji,W,hni,hji,hW,rfl⟩
     refine z8 (q8 hT ?_)
     refine z4 (y4 (fun h=>?_) (fun h=>?_))
     ·have h:=k0q (show decide (ji<((2:Nat):Int))=true from h)
      have hi:i<OF.length:=by omega
      refine z5 ?_
      have hs:=k0x hi
      have hsl:=hOr _ (k1x hi)
      generalize OF[i]=s at hs hsl
      have hv:=hcg i s hs
      have hsp:(z2 OF)[ji.toNat]?=some [bP s]:=by rw[hji,k0v];exact Q0 hs
      have hvp:(bx s)[jp.toNat]?=some [u8 (s.getD p 0)]:=by rw[hjp,k0v];exact u7 (Q3 (by omega))
      generalize s.getD p 0=v at hv hvp
      have hWl:(bx W).length≤2:=by rw[w6,hW,k2u];omega
      have hW1:col.take (i+1)=W++[v]:=by rw[k2t,hv,hW];rfl
      refine y6 (fun st=>∃ W',W'=W++[v]∧st=⟨⟨136,[(0,.p (.sl 1 (z2 S))),(1,i64 2),(8,i64 c),(9,.p (.sl 1 (z2 BY))),(10,.p (.sl 1 (z2 OF))),(14,.msl 0 1 0 2),(15,i64 jp),(16,.msl 3 1 0 (bx W').length),(17,i64 ji)]⟩,[.cells z0 [.msl 1 1 0 (bx (M 0)).length,.msl 2 1 0 (bx (M 1)).length],.row z1 1 (bx (M 0)),.row z1 1 (bx (M 1)),.row z1 1 (bx W')]⟩) (z3 (q9 hT ?_)) ?_
      ·refine⟨by omega,w9 hsp ?_⟩
       refine⟨by omega,w9 hvp ?_⟩
       refine⟨rfl,⟨by show ((bx W).length+1)*1≤_;omega,by show (bx W).length+1≤_;omega⟩,?_⟩
       refine⟨_,q7 [0,1,2,5] [0,1,8,9,10,14,15,16,17] rfl,_,rfl,?_⟩
       rw[Y9];rfl
      ·rintro _ ⟨W',hW',rfl⟩
       refine q9 hT ?_
       exact⟨n2 - 1,by omega,_,q7 [0,1,2,3] [0,1,8,9,10,14,15,16,17] rfl,i+1,IntKind.i64.wrap (ji+1),W',by omega,by rw[y8 _ (by omega) (by omega)];omega,by rw[hW1];exact hW',rfl⟩
     ·have h:=k0z (show decide (ji<((2:Nat):Int))=false from h)
      rw[k2z (by omega)]at hW
      refine x6 ?_
      exact⟨_,q7 [0,1,2,3] [0,1,8,9,10,14,15,16] rfl,W,hW,rfl⟩
    rintro _ ⟨W,hW,rfl⟩
    rw[← hW]at hsv
    clear hcg hcl hW
    refine u6 (Z6 16 3 _ rfl rfl rfl rfl) ?_
    refine z7 ⟨⟨136,[(0,.p (.sl 1 (z2 S))),(1,i64 2),(8,i64 c),(9,.p (.sl 1 (z2 BY))),(10,.p (.sl 1 (z2 OF))),(14,.msl 0 1 0 2),(15,i64 jp),(18,bA x)]⟩,[.cells z0 [.msl 1 1 0 (bx (M 0)).length,.msl 2 1 0 (bx (M 1)).length],.row z1 1 (bx (M 0)),.row z1 1 (bx (M 1))]⟩ True (q9 hT ?_) (fun _=>?_)
    ·refine x7 (w7 hsv _ rfl rfl) ?_
     exact⟨q7 [0,1,2] [0,1,8,9,10,14,15,18] rfl,trivial⟩
    refine q8 hT ?_
    refine z3 ?_
    refine y7 (fun n st=>∃ (i:Nat) (ji:Int) (N:Z3),n+i=2∧ji=i∧(∀ j,j<2→N j=(dB j).take (if j<i then p+1 else p))∧st=⟨⟨136,[(0,.p (.sl 1 (z2 S))),(1,i64 2),(8,i64 c),(9,.p (.sl 1 (z2 BY))),(10,.p (.sl 1 (z2 OF))),(14,.msl 0 1 0 2),(15,i64 jp),(18,bA x),(19,i64 ji)]⟩,[.cells z0 [.msl 1 1 0 (bx (N 0)).length,.msl 2 1 0 (bx (N 1)).length],.row z1 1 (bx (N 0)),.row z1 1 (bx (N 1))]⟩) 2 ⟨⟨136,_⟩,_⟩ (q7 [0,1,2] [0,1,8,9,10,14,15,18,19] rfl) ⟨0,0,M,rfl,rfl,fun j hj=>by rw[if_neg (by omega)];exact hM j hj,rfl⟩ ?_
    rintro n2 st ⟨i,ji,N,hni,hji,hN,rfl⟩
    refine z8 (q8 hT ?_)
    refine z4 (y4 (fun h=>?_) (fun h=>?_))
    ·have h:=k0q (show decide (ji<((2:Nat):Int))=true from h)
     have hi4:i=0∨i=1:=by omega
     subst hji
     refine z5 ?_
     refine y6 (fun st=>∃ N':Z3,(∀ j,j<2→N' j=(dB j).take (if j<i+1 then p+1 else p))∧st=⟨⟨136,[(0,.p (.sl 1 (z2 S))),(1,i64 2),(8,i64 c),(9,.p (.sl 1 (z2 BY))),(10,.p (.sl 1 (z2 OF))),(14,.msl 0 1 0 2),(15,i64 jp),(18,bA x),(19,i64 i)]⟩,[.cells z0 [.msl 1 1 0 (bx (N' 0)).length,.msl 2 1 0 (bx (N' 1)).length],.row z1 1 (bx (N' 0)),.row z1 1 (bx (N' 1))]⟩) (z3 ?_) ?_
     ·let I:=i
      have hI:I<2:=by show i<2;omega
      have hN:∀ j,j<2→N j=(dB j).take (if j<I then p+1 else p):=hN
      rcases hi4 with rfl|rfl
      all_goals
       have hxi:=hpg I hI
       have hxg:=Q3 (l:=x) (c:=I) (by omega)
       rw[hxg]at hxi
       generalize x.getD I 0=v at hxg hxi
       have hxp:(bx x)[((I:Nat):Int).toNat]?=some [u8 v]:=u7 hxg
       have hNi:=hN I hI
       rw[if_neg (Nat.lt_irrefl I)]at hNi
       have hNl:(bx (N I)).length≤4096:=by rw[w6,hNi,k2u];omega
       have hN1:(dB I).take (p+1)=N I++[v]:=by rw[k2t,hxi,hNi];rfl
       refine v7 [11,13] [10] hT y5 (by rfl) ?_
       refine⟨by omega,?_⟩
       refine⟨by omega,w9 hxp ?_⟩
       refine⟨⟨rfl,rfl⟩,?_⟩
       refine⟨rfl,⟨by show ((bx (N I)).length+1)*1≤_;omega,by show (bx (N I)).length+1≤_;omega⟩,?_⟩
       refine⟨by omega,?_⟩
       repeat first|refine⟨rfl,?_⟩|refine⟨⟨by omega,rfl⟩,?_⟩|refine⟨⟨by omega,w9 hxp rfl⟩,?_⟩
       refine⟨_,q7 [0,pkI I 3 0,pkI I 3 1] [0,1,8,9,10,14,15,18,19] rfl,U5 N I (N I++[v]),fun j hj=>?_,?_⟩
       ·rw[q0h]
        show (if j=I then _ else _)=(dB j).take (if j<I+1 then p+1 else p)
        by_cases e:j=I
        ·rw[if_pos e,e,if_pos (Nat.lt_succ_self I)];exact hN1.symm
        ·rw[if_neg e,hN j hj]
         by_cases e2:j<I
         ·rw[if_pos e2,if_pos (by omega)]
         ·rw[if_neg e2,if_neg (by omega)]
       ·rw[show bx (U5 N I (N I++[v]) I)=bx (N I)++[[u8 v]] by rw[q0h,if_pos rfl];exact Y9 _ _];rfl
     ·rintro _ ⟨N',hN',rfl⟩
      refine q9 hT ?_
      exact⟨n2 - 1,by omega,_,q7 [0,1,2] [0,1,8,9,10,14,15,18,19] rfl,i+1,IntKind.i64.wrap ((i:Int)+1),N',by omega,by rw[y8 _ (by omega) (by omega)];rfl,hN',rfl⟩
    ·have h:=k0z (show decide (ji<((2:Nat):Int))=false from h)
     refine x6 ?_
     exact⟨_,q7 [0,1,2] [0,1,8,9,10,14,15] rfl,N,fun j hj=>by rw[hN j hj,if_pos (by omega)],rfl⟩
   ·rintro _ ⟨M',hM',rfl⟩
    refine q9 hT ?_
    exact⟨n - 1,by omega,_,q7 [0,1,2] [0,1,8,9,10,14,15] rfl,p+1,IntKind.i64.wrap (jp+1),M',by omega,by rw[y8 _ (by omega) (by omega)];omega,hM',rfl⟩
  ·have h:=k0z (show decide (jp<(c:Int))=false from h)
   refine x6 ?_
   exact⟨_,q7 [0,1,2] [0,1,14] rfl,M,fun i hi=>by rw[hM i hi,k2z (by rw[hdl i hi];omega)],rfl⟩
 rintro _ ⟨M,hM,rfl⟩
 rw[← hM 0 (by decide),← hM 1 (by decide)]at hDe
 have we:=q5h D m c (by omega) m1 (by omega) c1 c2 hDr
 have hEl:=q3b D m c
 clear hdl hDg hM wslv hDr hDl
 subst hDe
 generalize q1g [M 0,M 1] m c=E at we hEl eD
 rw[← hm]at we
 have we:AFm Tryz.prog 1 q1y [.msl 0 1 0 2,i64 (IntKind.i64.wrap ((((z2 S).length:Nat):Int) - ((2:Nat):Int)))] [.row z0 1 (z2 [M 0,M 1])] (v8 (.tup [.p (.sl 1 (z2 E)),i64 0]) [.row z0 1 (z2 [M 0,M 1])]):=we
 have hEc:=u5 E
 refine u6 (Wk.trans (X2 1 0 0 _ rfl rfl rfl rfl) (Wk.trans (X2 2 0 1 _ rfl rfl rfl rfl) (Wk.trans (U3 0 [bP (M 0),bP (M 1)] rfl rfl (show 2≤140737488355328 by decide)) (q7 [0] [0,1,14] rfl)))) ?_
 refine z7 ⟨⟨136,[(14,.msl 0 1 0 2),(20,.p (.sl 1 (z2 E)))]⟩,[.row z0 1 (z2 [M 0,M 1])]⟩ True (q9 hT ?_) (fun _=>?_)
 ·refine x7 (Q7 [0] we rfl rfl rfl) ?_
  exact⟨q7 [0] [14,20] rfl,trivial⟩
 refine q8 hT ?_
 refine⟨rfl,⟨by show (2+(z2 E).length)*24≤_;omega,by show 2+(z2 E).length≤_;omega⟩,?_⟩
 refine u6 (Z6 4 1 _ rfl rfl rfl rfl) ?_
 refine y9 ?_
 exact z9 [] ⟨([M 0,M 1]++E,0),eD.symm,(by show AV.tup [.p (.sl 1 (z2 [M 0,M 1]++z2 E)),i64 0]=_;rw[← Y1]),rfl⟩ rfl
end Go.Proofs.YtinfbclgkghgaaaGreat.AL
/- The document's layer 3 (rs): solved (printed by gensol.py). -/
namespace Go.Proofs.YtinfbclgkghgaaaGreat.AL
open Go Go.Proofs
theorem x0a (a0 a1 a2 Y:z6)(hA:∀ s∈([a0,a1,a2]:List z6),s.length=3)(hk:∀ x,q2t 3 (fun i=>([a0,a1,a2]:List z6).getD i []) x→∀ j,j<3→x j=0)(hY:Y.length=3) :
 AF Tryz.prog J3 [.p (.sl 1 (z2 [a0,a1,a2])),bA Y] [] (v8 (bA (q4r 3 [a0,a1,a2] Y)) []):=by
 refine AF.mono (R:=fun r H'=>∃ z,z=q4r 3 [a0,a1,a2] Y∧r=bA z∧H'=[]) ?_ (by rintro r H' ⟨z,rfl,rfl,rfl⟩;exact⟨rfl,rfl⟩)
 have ha0:a0.length=3:=hA a0 (by simp)
 have hx0:=w6 a0
 have hy0:(bx Y)[((0:Nat):Int).toNat]?=some [u8 (Y.getD 0 0)]:=u7 (Q3 (by omega))
 have ha1:a1.length=3:=hA a1 (by simp)
 have hx1:=w6 a1
 have hy1:(bx Y)[((1:Nat):Int).toNat]?=some [u8 (Y.getD 1 0)]:=u7 (Q3 (by omega))
 have ha2:a2.length=3:=hA a2 (by simp)
 have hx2:=w6 a2
 have hy2:(bx Y)[((2:Nat):Int).toNat]?=some [u8 (Y.getD 2 0)]:=u7 (Q3 (by omega))
 have h0:=z8n (r:=3) (L:=[a0,a1,a2]) (y:=(fun j=>Y.getD j 0)) rfl hA hk
 have hend:=fun M (h:SolI 3 [a0,a1,a2] (fun j=>Y.getD j 0) 3 M)=>y3p (r:=3) rfl hA hk h
 have hzl:=q5y 3 [a0,a1,a2] Y
 have hzg:=fun i (hi:i<3)=>z2t [a0,a1,a2] Y hi
 have wD:=q9f
 have wM:=q6v
 have wA:=q6u
 generalize q4r 3 [a0,a1,a2] Y=Z at hzl hzg
 obtain⟨M0,hM0⟩:∃ M0:Z3,M0=fun i=>([a0,a1,a2]:List z6).getD i []++[Y.getD i 0]:=⟨_,rfl⟩
 have hm0:bx (M0 0)=bx a0++[[u8 (Y.getD 0 0)]]:=by rw[hM0];exact Y9 _ _
 have hm1:bx (M0 1)=bx a1++[[u8 (Y.getD 1 0)]]:=by rw[hM0];exact Y9 _ _
 have hm2:bx (M0 2)=bx a2++[[u8 (Y.getD 2 0)]]:=by rw[hM0];exact Y9 _ _
 rw[show (fun i=>([a0,a1,a2]:List z6).getD i []++[(fun j=>Y.getD j 0) i])=M0 from hM0.symm]at h0
 obtain⟨S,hS⟩:∃ S,S=SolI 3 [a0,a1,a2] (fun j=>Y.getD j 0):=⟨_,rfl⟩
 obtain⟨E,hE⟩:∃ E,E=SolE 3 [a0,a1,a2] (fun j=>Y.getD j 0):=⟨_,rfl⟩
 have sLen:∀ {c M},S c M→∀ i,i<3→(M i).length=4:=fun h=>by subst hS;exact h.len
 have sSwap:∀ {c p M},S c M→c<3→c≤p→p<3→S c (swp M c p):=fun h h1 h2 h3=>by subst hS;exact z8p h h1 h2 h3
 have sPiv:∀ {c M},S c M→c<3→(∀ p,c≤p→p<3→(M p).getD c 0=0)→False:=fun h h1 h2=>by subst hS;exact y3n h h1 h2
 have sFirst:∀ {c M},S c M→(M c).getD c 0≠0→E c 0 M:=fun h h1=>by subst hS hE;exact z4f h h1
 have sSkip:∀ {c M},E c c M→E c (c+1) M:=fun h=>by subst hE;exact z8q h
 have sEl:∀ {c k M},E c k M→c<3→k<3→k≠c→∀ q,q=Gf.mul ((M k).getD c 0) (Gf.inv ((M c).getD c 0))→E c (k+1) (U5 M k (J4 (M k) (M c) q)):=fun h h1 h2 h3 q hq=>by subst hE;exact x6r h h1 h2 h3 q hq
 have sELen:∀ {c k M},E c k M→∀ i,i<3→(M i).length=4:=fun h=>by subst hE;exact h.sol.len
 have sEPiv:∀ {c k M},E c k M→(M c).getD c 0≠0:=fun h=>by subst hE;exact h.piv
 have sNext:∀ {c M},E c 3 M→S (c+1) M:=fun h=>by subst hS hE;exact z8r h
 rw[← hS]at h0 hend
 clear hS hE hk hA
 refine v6 hT q4h rfl rfl q4i rfl ?_
 refine q8 hT ?_
 refine z7 ⟨⟨173,[(0,.p (.sl 1 (z2 [a0,a1,a2]))),(1,bA Y),(5,i64 3)]⟩,[]⟩ True (q9 hT ?_) (fun _=>?_)
 ·exact⟨q7 [] [0,1,5] rfl,trivial⟩
 refine z7 ⟨⟨173,[(0,.p (.sl 1 (z2 [a0,a1,a2]))),(1,bA Y),(5,i64 3),(6,.p (.raw (.slice none 0 0)))]⟩,[]⟩ True (q9 hT ?_) (fun _=>?_)
 ·exact⟨q7 [] [0,1,5,6] rfl,trivial⟩
 refine z7 ⟨⟨173,[(5,i64 3),(6,.msl 0 1 0 3)]⟩,[.cells z0 [.msl 1 1 0 4,.msl 2 1 0 4,.msl 3 1 0 4],.row z1 1 (bx (M0 0)),.row z1 1 (bx (M0 1)),.row z1 1 (bx (M0 2))]⟩ True (q8 hT ?_) (fun _=>?_)
 ·refine z3 ?_
  refine y7 (fun n s=>(n=3∧s=⟨⟨173,[(0,.p (.sl 1 (z2 [a0,a1,a2]))),(1,bA Y),(5,i64 3),(6,.p (.raw (.slice none 0 0))),(7,i64 0)]⟩,[]⟩)∨(n=2∧s=⟨⟨173,[(0,.p (.sl 1 (z2 [a0,a1,a2]))),(1,bA Y),(5,i64 3),(6,.msl 0 1 0 1),(7,i64 1)]⟩,[.cells z0 [.msl 1 1 0 4],.row z1 1 (bx (M0 0))]⟩)∨(n=1∧s=⟨⟨173,[(0,.p (.sl 1 (z2 [a0,a1,a2]))),(1,bA Y),(5,i64 3),(6,.msl 0 1 0 2),(7,i64 2)]⟩,[.cells z0 [.msl 1 1 0 4,.msl 2 1 0 4],.row z1 1 (bx (M0 0)),.row z1 1 (bx (M0 1))]⟩)∨(n=0∧s=⟨⟨173,[(0,.p (.sl 1 (z2 [a0,a1,a2]))),(1,bA Y),(5,i64 3),(6,.msl 0 1 0 3),(7,i64 3)]⟩,[.cells z0 [.msl 1 1 0 4,.msl 2 1 0 4,.msl 3 1 0 4],.row z1 1 (bx (M0 0)),.row z1 1 (bx (M0 1)),.row z1 1 (bx (M0 2))]⟩)) 3 ⟨⟨173,_⟩,_⟩ (q7 [] [0,1,5,6,7] rfl) (.inl ⟨rfl,rfl⟩) ?_
  rintro n s (⟨rfl,rfl⟩|⟨rfl,rfl⟩|⟨rfl,rfl⟩|⟨rfl,rfl⟩)
  ·refine z8 (q8 hT ?_)
   refine z4 ?_
   refine z5 ?_
   refine y6 (fun st=>∃ (n:Nat) (X:List (List PV)),n=4∧X=bx (M0 0)∧st=⟨⟨173,[(0,.p (.sl 1 (z2 [a0,a1,a2]))),(1,bA Y),(5,i64 3),(6,.msl 0 1 0 1),(7,i64 0)]⟩,[.cells z0 [.msl 1 1 0 n],.row z1 1 (X)]⟩) (z3 (q8 hT ?_)) ?_
   ·refine⟨by decide,w9 rfl ?_⟩
    refine⟨⟨by show (bx a0).length*1≤_;omega,by omega⟩,?_⟩
    refine q9 hT ?_
    refine⟨by omega,w9 hy0 ?_⟩
    refine⟨rfl,⟨by show ((bx a0).length+1)*1≤_;omega,by show (bx a0).length+1≤_;omega⟩,?_⟩
    refine⟨⟨(show (1:Nat)*24≤140737488355328 by decide),(show (1:Nat)≤140737488355328 by decide)⟩,?_⟩
    refine⟨_,q7 [4,2] [0,1,5,6,7] rfl,_,_,?_,hm0.symm,rfl⟩
    show (bx a0++[[u8 (Y.getD 0 0)]]).length=4
    rw[k1z,hx0,ha0];rfl
   ·rintro _ ⟨n,X,rfl,rfl,rfl⟩
    refine q9 hT ?_
    exact⟨2,by decide,_,q7 [0,1] [0,1,5,6,7] rfl,(.inr (.inl ⟨rfl,rfl⟩))⟩
  ·refine z8 (q8 hT ?_)
   refine z4 ?_
   refine z5 ?_
   refine y6 (fun st=>∃ (n:Nat) (X:List (List PV)),n=4∧X=bx (M0 1)∧st=⟨⟨173,[(0,.p (.sl 1 (z2 [a0,a1,a2]))),(1,bA Y),(5,i64 3),(6,.msl 0 1 0 2),(7,i64 1)]⟩,[.cells z0 [.msl 1 1 0 4,.msl 2 1 0 n],.row z1 1 (bx (M0 0)),.row z1 1 (X)]⟩) (z3 (q8 hT ?_)) ?_
   ·refine⟨by decide,w9 rfl ?_⟩
    refine⟨⟨by show (bx a1).length*1≤_;omega,by omega⟩,?_⟩
    refine q9 hT ?_
    refine⟨by omega,w9 hy1 ?_⟩
    refine⟨rfl,⟨by show ((bx a1).length+1)*1≤_;omega,by show (bx a1).length+1≤_;omega⟩,?_⟩
    refine⟨⟨(show (2:Nat)*24≤140737488355328 by decide),(show (2:Nat)≤140737488355328 by decide)⟩,?_⟩
    refine⟨_,q7 [6,1,4] [0,1,5,6,7] rfl,_,_,?_,hm1.symm,rfl⟩
    show (bx a1++[[u8 (Y.getD 1 0)]]).length=4
    rw[k1z,hx1,ha1];rfl
   ·rintro _ ⟨n,X,rfl,rfl,rfl⟩
    refine q9 hT ?_
    exact⟨1,by decide,_,q7 [0,1,2] [0,1,5,6,7] rfl,(.inr (.inr (.inl ⟨rfl,rfl⟩)))⟩
  ·refine z8 (q8 hT ?_)
   refine z4 ?_
   refine z5 ?_
   refine y6 (fun st=>∃ (n:Nat) (X:List (List PV)),n=4∧X=bx (M0 2)∧st=⟨⟨173,[(0,.p (.sl 1 (z2 [a0,a1,a2]))),(1,bA Y),(5,i64 3),(6,.msl 0 1 0 3),(7,i64 2)]⟩,[.cells z0 [.msl 1 1 0 4,.msl 2 1 0 4,.msl 3 1 0 n],.row z1 1 (bx (M0 0)),.row z1 1 (bx (M0 1)),.row z1 1 (X)]⟩) (z3 (q8 hT ?_)) ?_
   ·refine⟨by decide,w9 rfl ?_⟩
    refine⟨⟨by show (bx a2).length*1≤_;omega,by omega⟩,?_⟩
    refine q9 hT ?_
    refine⟨by omega,w9 hy2 ?_⟩
    refine⟨rfl,⟨by show ((bx a2).length+1)*1≤_;omega,by show (bx a2).length+1≤_;omega⟩,?_⟩
    refine⟨⟨(show (3:Nat)*24≤140737488355328 by decide),(show (3:Nat)≤140737488355328 by decide)⟩,?_⟩
    refine⟨_,q7 [7,1,2,5] [0,1,5,6,7] rfl,_,_,?_,hm2.symm,rfl⟩
    show (bx a2++[[u8 (Y.getD 2 0)]]).length=4
    rw[k1z,hx2,ha2];rfl
   ·rintro _ ⟨n,X,rfl,rfl,rfl⟩
    refine q9 hT ?_
    exact⟨0,by decide,_,q7 [0,1,2,3] [0,1,5,6,7] rfl,(.inr (.inr (.inr ⟨rfl,rfl⟩)))⟩
  ·refine z8 (q8 hT ?_)
   refine z4 ?_
   refine x6 ?_
   exact⟨q7 [0,1,2,3] [5,6] rfl,trivial⟩
 refine y6 (fun st=>∃ M,S 3 M∧st=⟨⟨173,[(5,i64 3),(6,.msl 0 1 0 3)]⟩,[.cells z0 [.msl 1 1 0 4,.msl 2 1 0 4,.msl 3 1 0 4],.row z1 1 (bx (M 0)),.row z1 1 (bx (M 1)),.row z1 1 (bx (M 2))]⟩) (q8 hT ?_) ?_
 ·refine z3 ?_
  refine y7 (fun n s=>∃ (c:Nat) (jc:Int) (M:Z3),n+c=3∧jc=c∧S c M∧s=⟨⟨173,[(5,i64 3),(6,.msl 0 1 0 3),(9,i64 jc)]⟩,[.cells z0 [.msl 1 1 0 4,.msl 2 1 0 4,.msl 3 1 0 4],.row z1 1 (bx (M 0)),.row z1 1 (bx (M 1)),.row z1 1 (bx (M 2))]⟩) 3 ⟨⟨173,_⟩,_⟩ (q7 [0,1,2,3] [5,6,9] rfl) ⟨0,0,M0,rfl,rfl,h0,rfl⟩ ?_
  rintro n s ⟨c,jc,M,hnc,hjc,hM,rfl⟩
  refine z8 (q8 hT ?_)
  refine z4 (y4 (fun h=>?_) (fun h=>?_))
  ·have h:=k0q (show decide (jc<((3:Nat):Int))=true from h)
   refine z5 ?_
   subst hjc
   let C:=c
   have hC:C<3:=by show c<3;omega
   have hM:S C M:=hM
   have hlen:=sLen hM
   have hc4:c=0∨c=1∨c=2:=by omega
   refine y6 (fun st=>∃ M,S (C+1) M∧st=⟨⟨173,[(5,i64 3),(6,.msl 0 1 0 3),(9,i64 C)]⟩,[.cells z0 [.msl 1 1 0 4,.msl 2 1 0 4,.msl 3 1 0 4],.row z1 1 (bx (M 0)),.row z1 1 (bx (M 1)),.row z1 1 (bx (M 2))]⟩) (z3 ?_) ?_
   ·rcases hc4 with rfl|rfl|rfl
    all_goals
     refine q8 hT ?_
     refine y6 (fun st=>∃ p:Nat,(C≤p∧p<3∧(M p).getD C 0≠0)∧st=⟨⟨173,[(5,i64 3),(6,.msl 0 1 0 3),(9,i64 C),(10,i64 p)]⟩,[.cells z0 [.msl 1 1 0 4,.msl 2 1 0 4,.msl 3 1 0 4],.row z1 1 (bx (M 0)),.row z1 1 (bx (M 1)),.row z1 1 (bx (M 2))]⟩) (z3 ?_) ?_
     ·refine y7 (fun n s=>∃ (p:Nat) (jp:Int),n+p=3∧jp=p∧C≤p∧p<3∧(∀ j,C≤j→j<p→(M j).getD C 0=0)∧s=⟨⟨173,[(5,i64 3),(6,.msl 0 1 0 3),(9,i64 C),(10,i64 jp)]⟩,[.cells z0 [.msl 1 1 0 4,.msl 2 1 0 4,.msl 3 1 0 4],.row z1 1 (bx (M 0)),.row z1 1 (bx (M 1)),.row z1 1 (bx (M 2))]⟩) (3 - C) ⟨⟨173,_⟩,_⟩ (q7 [0,1,2,3] [5,6,9,10] rfl) ⟨C,C,rfl,rfl,k1w _,hC,fun j h1 h2=>by omega,rfl⟩ ?_
      rintro n s ⟨p,jp,hnp,hjp,hp1,hp2,hz,rfl⟩
      subst hjp
      have hp4:p=0∨p=1∨p=2:=by omega
      let P:=p
      have hz:∀ j,C≤j→j<P→(M j).getD C 0=0:=hz
      have hp1:C≤P:=hp1
      have hp2:P<3:=hp2
      have hnp:n+P=3:=hnp
      rcases hp4 with rfl|rfl|rfl
      all_goals
       have hg:=Q3 (l:=M P) (c:=C) (by rw[hlen P hp2];omega)
       generalize hv:(M P).getD C 0=v at hg
       have hgx:(bx (M P))[0+((C:Nat):Int).toNat]?=some [u8 v]:=u7 hg
       refine z8 (q8 hT ?_)
       first
        |refine z4 ?_
         refine x6 ?_
         exact⟨_,q7 [0,1,2,3] [5,6,9,10] rfl,P,⟨hp1,hp2,fun e=>sPiv hM hC fun q h1 h2=>by
          by_cases e2:q=P
          ·rw[e2];exact e
          ·exact hz q h1 (by show q<P;have h2:q<P+1:=h2;omega)⟩,rfl⟩
        |refine⟨by decide,?_⟩
         refine⟨⟨by omega,by omega⟩,?_⟩
         refine w9 hgx ?_
         refine z4 (y4 (fun h=>?_) (fun h=>?_))
         ·have h:(((v.toNat:Nat):Int)==0)=true:=h
          rw[beq_iff_eq]at h
          have hv0:v=0:=UInt8.toNat_inj.mp (by show v.toNat=0;omega)
          refine z5 ?_
          refine z3 ?_
          refine q9 hT ?_
          exact⟨n - 1,by omega,_,q7 [0,1,2,3] [5,6,9,10] rfl,P+1,_,by omega,(show _=((P:Nat):Int)+1 from y8 _ (by omega) (by omega)),by omega,(by show P+1+1≤3;exact Nat.le_of_ble_eq_true rfl),fun j h1 h2=>by
           by_cases e2:j=P
           ·rw[e2,hv];exact hv0
           ·exact hz j h1 (by omega),rfl⟩
         ·have h:(((v.toNat:Nat):Int)==0)=false:=h
          have hne:v≠0:=fun e=>by rw[e]at h;exact absurd h (by decide)
          refine x6 ?_
          exact⟨_,q7 [0,1,2,3] [5,6,9,10] rfl,P,⟨hp1,hp2,by rw[hv];exact hne⟩,rfl⟩
     rintro _ ⟨p,⟨hp1,hp2,hpv⟩,rfl⟩
     obtain⟨M1,hM1e⟩:∃ M1,M1=swp M C p:=⟨_,rfl⟩
     have hM1:S C M1:=by rw[hM1e];exact sSwap hM hC hp1 hp2
     have hM1p:(M1 C).getD C 0≠0:=by rw[hM1e,x2b];exact hpv
     have hp4:p=0∨p=1∨p=2:=by omega
     refine z7 ⟨⟨173,[(5,i64 3),(6,.msl 0 1 0 3),(9,i64 C),(10,i64 p),(11,.msl (1+C) 1 0 4)]⟩,[.cells z0 [.msl 1 1 0 4,.msl 2 1 0 4,.msl 3 1 0 4],.row z1 1 (bx (M 0)),.row z1 1 (bx (M 1)),.row z1 1 (bx (M 2))]⟩ True (q9 hT ?_) (fun _=>?_)
     ·refine⟨by omega,?_⟩
      exact⟨q7 [0,1,2,3] [5,6,9,10,11] rfl,trivial⟩
     refine y6 (fun st=>st=⟨⟨173,[(5,i64 3),(6,.msl 0 1 0 3),(9,i64 C),(10,i64 p),(11,.msl (1+C) 1 0 4)]⟩,[.cells z0 [.msl (sc C p 0) 1 0 4,.msl (sc C p 1) 1 0 4,.msl (sc C p 2) 1 0 4],.row z1 1 (bx (M 0)),.row z1 1 (bx (M 1)),.row z1 1 (bx (M 2))]⟩) ?_ ?_
     ·rcases hp4 with rfl|rfl|rfl
      all_goals
       refine q9 hT ?_
       refine⟨by omega,?_⟩
       refine⟨by omega,?_⟩
       exact⟨_,q7 [0,1,2,3] [5,6,9,10,11] rfl,rfl⟩
     rintro _ rfl
     refine y6 (fun st=>∃ N,N=M1∧st=⟨⟨173,[(5,i64 3),(6,.msl 0 1 0 3),(9,i64 C)]⟩,[.cells z0 [.msl 1 1 0 4,.msl 2 1 0 4,.msl 3 1 0 4],.row z1 1 (bx (N 0)),.row z1 1 (bx (N 1)),.row z1 1 (bx (N 2))]⟩) ?_ ?_
     ·let P:=p
      have hM1e:M1=swp M C P:=hM1e
      rcases hp4 with rfl|rfl|rfl
      all_goals
       refine q9 hT ?_
       refine⟨by omega,?_⟩
       exact⟨_,q7 [0,sw C P 0,sw C P 1,sw C P 2] [5,6,9] rfl,swp M C P,hM1e.symm,rfl⟩
     rintro _ ⟨_,rfl,rfl⟩
     clear hM1e hpv hlen hM hp4 hp1 hp2
     refine q8 hT ?_
     refine z3 ?_
     refine y7 (fun n s=>∃ (k:Nat) (j:Int) (M:Z3),n+k=3∧j=k∧E C k M∧s=⟨⟨173,[(5,i64 3),(6,.msl 0 1 0 3),(9,i64 C),(12,i64 j)]⟩,[.cells z0 [.msl 1 1 0 4,.msl 2 1 0 4,.msl 3 1 0 4],.row z1 1 (bx (M 0)),.row z1 1 (bx (M 1)),.row z1 1 (bx (M 2))]⟩) 3 ⟨⟨173,_⟩,_⟩ (q7 [0,1,2,3] [5,6,9,12] rfl) ⟨0,0,_,rfl,rfl,sFirst hM1 hM1p,rfl⟩ ?_
     clear hM1 hM1p
     rintro n2 s ⟨k,j,M,hnk,hj,hE,rfl⟩
     refine z8 (q8 hT ?_)
     refine z4 (y4 (fun h=>?_) (fun h=>?_))
     ·have h:=k0q (show decide (j<((3:Nat):Int))=true from h)
      refine z5 ?_
      have hk4:k=0∨k=1∨k=2:=by omega
      subst hj
      refine y6 (fun st=>∃ M',E C (k+1) M'∧st=⟨⟨173,[(5,i64 3),(6,.msl 0 1 0 3),(9,i64 C),(12,i64 k)]⟩,[.cells z0 [.msl 1 1 0 4,.msl 2 1 0 4,.msl 3 1 0 4],.row z1 1 (bx (M' 0)),.row z1 1 (bx (M' 1)),.row z1 1 (bx (M' 2))]⟩) (z3 ?_) ?_
      ·let K:=k
       have hkr:K<3:=by show k<3;omega
       have hE:E C K M:=hE
       rcases hk4 with rfl|rfl|rfl
       all_goals
        have l1:=sELen hE
        have hvc:=sEPiv hE
        have hkl:=l1 K hkr
        have hcl:=l1 C hC
        have hgc:=Q3 (l:=M C) (c:=C) (by rw[hcl];omega)
        have hgk:=Q3 (l:=M K) (c:=C) (by rw[hkl];omega)
        first
         |have hEl:=sSkip hE
          refine z8 (q8 hT ?_)
          refine z4 ?_
          refine x6 ?_
          exact⟨_,q7 [0,1,2,3] [5,6,9,12] rfl,M,hEl,rfl⟩
         |have hEl:=sEl hE hC hkr (Nat.ne_of_beq_eq_false rfl)
          generalize (M C).getD C 0=v at hgc hvc hEl
          generalize (M K).getD C 0=x at hgk hEl
          have hEl:=hEl _ rfl
          have w:=wD x v hvc
          generalize Gf.mul x (Gf.inv v)=q at hEl w
          have hcx:(bx (M C))[0+((C:Nat):Int).toNat]?=some [u8 v]:=u7 hgc
          have hkx:(bx (M K))[0+((C:Nat):Int).toNat]?=some [u8 x]:=u7 hgk
          refine z8 (q8 hT ?_)
          refine⟨by omega,?_⟩
          refine⟨⟨by omega,by omega⟩,?_⟩
          refine w9 hcx ?_
          refine z4 (y4 (fun h=>?_) (fun h=>?_))
          ·have h:(((v.toNat:Nat):Int)==0)=true:=h
           rw[beq_iff_eq]at h
           exact absurd (UInt8.toNat_inj.mp (by show v.toNat=0;omega)) hvc
          refine z5 ?_
          refine z7 ⟨⟨173,[(5,i64 3),(6,.msl 0 1 0 3),(9,i64 C),(12,i64 K),(13,.p (u8 q))]⟩,[.cells z0 [.msl 1 1 0 4,.msl 2 1 0 4,.msl 3 1 0 4],.row z1 1 (bx (M 0)),.row z1 1 (bx (M 1)),.row z1 1 (bx (M 2))]⟩ True ?_ (fun _=>?_)
          ·refine v7 [] [] hT y5 (by rfl) ?_
           refine⟨by omega,?_⟩
           refine⟨⟨by omega,by omega⟩,?_⟩
           refine w9 hkx ?_
           refine⟨by omega,?_⟩
           refine⟨⟨by omega,by omega⟩,?_⟩
           refine w9 hcx ?_
           refine⟨_,w7 w _ rfl rfl,?_⟩
           exact⟨q7 [0,1,2,3] [5,6,9,12,13] rfl,trivial⟩
          clear w hcx hkx hgc hgk hvc
          have hkc:(M K).length=(M C).length:=by rw[hkl,hcl]
          have hRl:=q1t q hkc
          have hRg:=fun i h1 h2=>y3q (to:=M K) (row:=M C) q (i:=i) h1 h2
          generalize J4 (M K) (M C) q=R at hRl hRg hEl
          refine q8 hT ?_
          refine z3 ?_
          refine y7 (fun n s=>∃ (i:Nat) (ji:Int) (X:List (List PV)),n+i=4∧ji=i∧X=bx (q2c R (M K) i)∧s=⟨⟨173,[(5,i64 3),(6,.msl 0 1 0 3),(9,i64 C),(12,i64 K),(13,.p (u8 q)),(15,i64 ji)]⟩,[.cells z0 [.msl 1 1 0 4,.msl 2 1 0 4,.msl 3 1 0 4],.row z1 1 (q9s M K X 0),.row z1 1 (q9s M K X 1),.row z1 1 (q9s M K X 2)]⟩) 4 ⟨⟨173,_⟩,_⟩ (q7 [0,1,2,3] [5,6,9,12,13,15] rfl) ⟨0,0,bx (M K),rfl,rfl,by rw[x6s],rfl⟩ ?_
          rintro n3 s ⟨i,ji,X,hni,hji,hX,rfl⟩
          refine z8 (q8 hT ?_)
          refine z4 (y4 (fun h=>?_) (fun h=>?_))
          ·have h:=k0q (show decide (ji≤((3:Nat):Int))=true from h)
           have h1:i<(M K).length:=by omega
           have h2:i<(M C).length:=by omega
           refine z5 ?_
           have hmg:=q7p hRl h1
           have hcg:=k0x h2
           have hv:=hRg i h1 h2
           have hset:=q7q hRl h1 hv
           have w1:=wM q (M C)[i]
           have w2:=wA (M K)[i] (Gf.mul q (M C)[i])
           generalize (M K)[i]=u at hmg hset w2 hv
           generalize (M C)[i]=b at hcg hset w1 w2 hv
           generalize Gf.mul q b=qb at hset w1 w2 hv
           generalize u ^^^ qb=uq at hset w2 hv
           have hjk:0+ji.toNat=i:=by omega
           have hux:X[0+ji.toNat]?=some [u8 u]:=by rw[hjk,hX];exact u7 hmg
           have hbx:(bx (M C))[0+ji.toNat]?=some [u8 b]:=by rw[hjk];exact u7 hcg
           have hset2:X.set (0+ji.toNat) [u8 uq]=bx (q2c R (M K) (i+1)):=by rw[hjk,hX];exact hset
           refine y6 (fun st=>∃ X,X=bx (q2c R (M K) (i+1))∧st=⟨⟨173,[(5,i64 3),(6,.msl 0 1 0 3),(9,i64 C),(12,i64 K),(13,.p (u8 q)),(15,i64 ji)]⟩,[.cells z0 [.msl 1 1 0 4,.msl 2 1 0 4,.msl 3 1 0 4],.row z1 1 (q9s M K X 0),.row z1 1 (q9s M K X 1),.row z1 1 (q9s M K X 2)]⟩) (z3 (q8 hT ?_)) ?_
           ·refine⟨by omega,?_⟩
            refine⟨⟨by omega,by omega⟩,?_⟩
            refine w9 hbx ?_
            refine x7 (w7 w1 _ rfl rfl) ?_
            refine v7 [15] [] hT y5 (by rfl) ?_
            refine⟨by omega,?_⟩
            refine⟨by omega,?_⟩
            refine⟨⟨by omega,by omega⟩,?_⟩
            refine w9 hux ?_
            refine⟨_,w7 w2 _ rfl rfl,?_⟩
            refine⟨⟨by omega,by omega⟩,?_⟩
            refine w9 hux ?_
            repeat first|refine⟨rfl,?_⟩|refine⟨⟨by omega,rfl⟩,?_⟩|refine⟨⟨_,w7 w2 _ rfl rfl,rfl⟩,?_⟩|refine⟨⟨⟨by omega,by omega⟩,rfl⟩,?_⟩|refine⟨w9 hux rfl,?_⟩
            exact⟨_,q7 [0,1,2,3] [5,6,9,12,13,15] rfl,_,hset2,rfl⟩
           ·rintro _ ⟨X,hX,rfl⟩
            refine q9 hT ?_
            exact⟨n3 - 1,by omega,_,q7 [0,1,2,3] [5,6,9,12,13,15] rfl,i+1,IntKind.i64.wrap (ji+1),X,by omega,by rw[y8 _ (by omega) (by omega)];omega,hX,rfl⟩
          ·have h:=k0z (show decide (ji≤((3:Nat):Int))=false from h)
           rw[show i=(M K).length by omega,q7n hRl]at hX
           rw[hX]
           refine x6 ?_
           exact⟨_,q7 [0,1,2,3] [5,6,9,12] rfl,U5 M K R,hEl,rfl⟩
      ·rintro _ ⟨M',hM',rfl⟩
       refine q9 hT ?_
       exact⟨n2 - 1,by omega,_,q7 [0,1,2,3] [5,6,9,12] rfl,k+1,IntKind.i64.wrap ((k:Int)+1),M',by omega,by rw[y8 _ (by omega) (by omega)];rfl,hM',rfl⟩
     ·have h:=k0z (show decide (j<((3:Nat):Int))=false from h)
      rw[show k=3 by omega]at hE
      refine x6 ?_
      exact⟨_,q7 [0,1,2,3] [5,6,9] rfl,M,sNext hE,rfl⟩
   ·rintro _ ⟨M,hM,rfl⟩
    refine q9 hT ?_
    exact⟨n - 1,by omega,_,q7 [0,1,2,3] [5,6,9] rfl,c+1,IntKind.i64.wrap ((c:Int)+1),M,by omega,by rw[y8 _ (by omega) (by omega)];rfl,hM,rfl⟩
  ·have h:=k0z (show decide (jc<((3:Nat):Int))=false from h)
   rw[show c=3 by omega]at hM
   refine x6 ?_
   exact⟨_,q7 [0,1,2,3] [5,6] rfl,M,hM,rfl⟩
 rintro _ ⟨M,hM,rfl⟩
 have hlen:=sLen hM
 have he:=hend M hM
 clear h0 hend sLen sSwap sPiv sFirst sSkip sEl sELen sEPiv sNext hM
 refine z7 ⟨⟨173,[(5,i64 3),(6,.msl 0 1 0 3),(17,.msl 4 1 0 0)]⟩,[.cells z0 [.msl 1 1 0 4,.msl 2 1 0 4,.msl 3 1 0 4],.row z1 1 (bx (M 0)),.row z1 1 (bx (M 1)),.row z1 1 (bx (M 2)),.row z1 1 (bx [])]⟩ True (q9 hT ?_) (fun _=>?_)
 ·exact⟨Wk.trans (Q2 z1 1) (Wk.trans (V6 17 4 1 0 rfl) (q7 [0,1,2,3,4] [5,6,17] rfl)),trivial⟩
 refine y6 (fun st=>∃ X,X=Z∧st=⟨⟨173,[(17,.msl 0 1 0 (bx X).length)]⟩,[.row z1 1 (bx X)]⟩) (q8 hT ?_) ?_
 ·refine z3 ?_
  refine y7 (fun n s=>∃ (i:Nat) (ji:Int) (X:z6),n+i=3∧ji=i∧X=Z.take i∧s=⟨⟨173,[(5,i64 3),(6,.msl 0 1 0 3),(17,.msl 4 1 0 (bx X).length),(18,i64 ji)]⟩,[.cells z0 [.msl 1 1 0 4,.msl 2 1 0 4,.msl 3 1 0 4],.row z1 1 (bx (M 0)),.row z1 1 (bx (M 1)),.row z1 1 (bx (M 2)),.row z1 1 (bx X)]⟩) 3 ⟨⟨173,_⟩,_⟩ (q7 [0,1,2,3,4] [5,6,17,18] rfl) ⟨0,0,[],rfl,rfl,rfl,rfl⟩ ?_
  rintro n s ⟨i,ji,X,hni,hji,hX,rfl⟩
  refine z8 (q8 hT ?_)
  refine z4 (y4 (fun h=>?_) (fun h=>?_))
  ·have h:=k0q (show decide (ji<((3:Nat):Int))=true from h)
   refine z5 ?_
   have hi4:i=0∨i=1∨i=2:=by omega
   subst hji
   have hXl:(bx X).length≤3:=by rw[w6,hX,k2u];omega
   refine y6 (fun st=>∃ X',X'=Z.take (i+1)∧st=⟨⟨173,[(5,i64 3),(6,.msl 0 1 0 3),(17,.msl 4 1 0 (bx X').length),(18,i64 i)]⟩,[.cells z0 [.msl 1 1 0 4,.msl 2 1 0 4,.msl 3 1 0 4],.row z1 1 (bx (M 0)),.row z1 1 (bx (M 1)),.row z1 1 (bx (M 2)),.row z1 1 (bx X')]⟩) (z3 (z8 ?_)) ?_
   ·let I:=i
    have hI:I<3:=by show i<3;omega
    have hX:X=Z.take I:=hX
    rcases hi4 with rfl|rfl|rfl
    all_goals
     obtain⟨hne,hq⟩:=he I hI
     have hzi:=hzg I hI
     rw[← hq]at hzi
     have hg1:=Q3 (l:=M I) (c:=3) (by rw[hlen I hI];decide)
     have hg2:=Q3 (l:=M I) (c:=I) (by rw[hlen I hI];omega)
     clear hq
     generalize (M I).getD 3 0=x at hg1 hzi
     generalize (M I).getD I 0=v at hg2 hzi hne
     have w:=wD x v hne
     generalize Gf.mul x (Gf.inv v)=q at hzi w
     have hx1:(bx (M I))[0+((3:Nat):Int).toNat]?=some [u8 x]:=u7 hg1
     have hx2:(bx (M I))[0+((I:Nat):Int).toNat]?=some [u8 v]:=u7 hg2
     refine v7 [] [] hT y5 (by rfl) ?_
     refine⟨by omega,?_⟩
     refine⟨⟨by decide,by decide⟩,?_⟩
     refine w9 hx1 ?_
     refine⟨by omega,?_⟩
     refine⟨⟨by omega,by omega⟩,?_⟩
     refine w9 hx2 ?_
     refine⟨_,w7 w _ rfl rfl,?_⟩
     refine q9 hT ?_
     refine⟨rfl,⟨by show ((bx X).length+1)*1≤_;omega,by show (bx X).length+1≤_;omega⟩,?_⟩
     refine⟨_,q7 [0,1,2,3,6] [5,6,17,18] rfl,X++[q],?_,?_⟩
     ·show X++[q]=Z.take (I+1)
      rw[k2t,hzi,hX];rfl
     ·rw[Y9];rfl
   ·rintro _ ⟨X,hX,rfl⟩
    refine q9 hT ?_
    exact⟨n - 1,by omega,_,q7 [0,1,2,3,4] [5,6,17,18] rfl,i+1,IntKind.i64.wrap ((i:Int)+1),X,by omega,by rw[y8 _ (by omega) (by omega)];rfl,hX,rfl⟩
  ·have h:=k0z (show decide (ji<((3:Nat):Int))=false from h)
   rw[k2z (by omega)]at hX
   refine x6 ?_
   exact⟨_,q7 [4] [17] rfl,X,hX,rfl⟩
 rintro _ ⟨X,rfl,rfl⟩
 refine u6 (Z6 17 0 _ rfl rfl rfl rfl) ?_
 refine q8 hT ?_
 refine y9 ?_
 exact z9 [] ⟨_,rfl,rfl,rfl⟩ rfl
theorem x0b (S:List z6)(m c:Nat)(m1:1≤m)(m3:m≤3)(c1:1≤c)(c2:c≤4096)(hl:S.length=3+m)(hS:∀ s∈S,s.length=0∨s.length=c) :
 AF Tryz.prog q1z [.p (.sl 1 (z2 S)),i64 3] [] (v8 (.tup [.p (.sl 1 (z2 (J9 S 3 m c).1)),i64 (J9 S 3 m c).2]) []):=by
 refine AF.mono (R:=fun r H'=>∃ z,z=J9 S 3 m c∧r=.tup [.p (.sl 1 (z2 z.1)),i64 z.2]∧H'=[]) ?_ (by rintro r H' ⟨z,rfl,rfl,rfl⟩;exact⟨rfl,rfl⟩)
 have eD:J9 S 3 m c=match decide ((Q6 S 3 (3+m)).length<3) with
  |true=>([],9)
  |false=>(W9 S 3 m c++q1g (W9 S 3 m c) m c,0):=rfl
 have hcl:=u5 S
 have hm:IntKind.i64.wrap ((((z2 S).length:Nat):Int) - ((3:Nat):Int))=(m:Int):=by rw[y8 _ (by omega) (by omega)];omega
 have wr:=q7u 3 m (by decide) m1 (by omega)
 have hrl:=q3s 3 m
 have hRB:byB S 3 m=X3 (Y5 3 m) (Q6 S 3 (3+m)):=rfl
 have hSO:ofB S 3 m=X3 S (Q6 S 3 (3+m)):=rfl
 have hGs:∀ i,Q6 S 3 (i+1)=match decide ((Q6 S 3 i).length<3)&&decide (0<(S.getD i []).length) with
  |true=>Q6 S 3 i++[i]
  |false=>Q6 S 3 i:=fun i=>rfl
 have hgl:=fun i=>q1u S 3 i
 have hG0:Q6 S 3 0=[]:=rfl
 have hD:=z8s S m c m1 m3 hl hS (r:=3)
 have hslv:(Q6 S 3 (3+m)).length=3→∀ Y:z6,Y.length=3→AF Tryz.prog J3 [.p (.sl 1 (z2 (byB S 3 m))),bA Y] [] (v8 (bA (q4r 3 (byB S 3 m) Y)) []):=fun hg Y hY=>by
  have hbl:=q6s hg
  have hbr:=z3z (S:=S) (k:=3) (m:=m)
  have hbk:=q6x (by omega) hg
  generalize byB S 3 m=B at hbl hbr hbk ⊢
  rw[w3m hbl]at hbr hbk ⊢
  exact x0a (B.getD 0 []) (B.getD 1 []) (B.getD 2 []) Y hbr hbk hY
 rw[← hm]at wr
 generalize J9 S 3 m c=Z at eD
 generalize byB S 3 m=BY at hRB hslv hD
 generalize ofB S 3 m=OF at hSO hD
 generalize W9 S 3 m c=D at eD hD
 have hRc:=u5 (Y5 3 m)
 have hRg:=fun(i:Nat) (hi:i<3+m)=>Q0 (q9t (l:=Y5 3 m) (i:=i) (by rw[hrl];exact hi))
 generalize Y5 3 m=RB at wr hRg hRB hrl hRc
 generalize hRR:z2 RB=R at wr hRg hRc
 generalize Q6 S 3=good at eD hRB hSO hGs hgl hG0 hD hslv
 refine v6 hT q4f rfl rfl q4g rfl ?_
 refine q8 hT ?_
 refine z7 ⟨⟨136,[(0,.p (.sl 1 (z2 S))),(1,i64 3),(6,.p (.sl 1 R)),(7,i64 0)]⟩,[]⟩ True (q9 hT ?_) (fun _=>?_)
 ·refine x7 (w7 wr _ rfl rfl) ?_
  exact⟨q7 [] [0,1,6,7] rfl,trivial⟩
 refine z8 (q8 hT ?_)
 refine z4 ?_
 refine z5 ?_
 refine q8 hT ?_
 refine q8 hT ?_
 refine q8 hT ?_
 refine z7 ⟨⟨136,[(0,.p (.sl 1 (z2 S))),(1,i64 3),(6,.p (.sl 1 R)),(8,i64 0),(9,.msl 0 1 0 (z2 []).length),(10,.msl 1 1 0 (z2 []).length),(11,i64 0)]⟩,[.row z0 1 (z2 []),.row z0 1 (z2 [])]⟩ True (q9 hT ?_) (fun _=>?_)
 ·exact⟨Wk.trans (Q2 z0 1) (Wk.trans (Q2 z0 1) (Wk.trans (V6 9 0 1 0 rfl) (Wk.trans (V6 10 1 1 0 rfl) (q7 [0,1] [0,1,6,8,9,10,11] rfl)))),trivial⟩
 refine y6 (fun st=>∃ (q:Nat) (lf lg:Int) (X Y:List z6),lf=q∧(good (3+m)).length=min q 3∧((q=0∧lg=0)∨(0<q∧lg=c))∧X=BY∧Y=OF∧st=⟨⟨136,[(0,.p (.sl 1 (z2 S))),(1,i64 3),(8,i64 lg),(9,.msl 0 1 0 (z2 X).length),(10,.msl 1 1 0 (z2 Y).length),(11,i64 lf)]⟩,[.row z0 1 (z2 X),.row z0 1 (z2 Y)]⟩) (q8 hT ?_) ?_
 ·refine z3 ?_
  refine y7 (fun n st=>∃ (i q:Nat) (ji lf lg:Int) (X Y:List z6),n+i=3+m∧ji=i∧lf=q∧q≤i∧(good i).length=min q 3∧((q=0∧lg=0)∨(0<q∧lg=c))∧X=X3 RB (good i)∧Y=X3 S (good i)∧st=⟨⟨136,[(0,.p (.sl 1 (z2 S))),(1,i64 3),(6,.p (.sl 1 R)),(8,i64 lg),(9,.msl 0 1 0 (z2 X).length),(10,.msl 1 1 0 (z2 Y).length),(11,i64 lf),(12,i64 ji)]⟩,[.row z0 1 (z2 X),.row z0 1 (z2 Y)]⟩) (3+m) ⟨⟨136,_⟩,_⟩ (q7 [0,1] [0,1,6,8,9,10,11,12] rfl) ⟨0,0,0,0,0,[],[],by omega,rfl,rfl,k1w _,by rw[hG0];rfl,.inl ⟨rfl,rfl⟩,by rw[hG0];rfl,by rw[hG0];rfl,rfl⟩ ?_
  rintro n st ⟨i,q,ji,lf,lg,X,Y,hni,hji,hlf,hqi,hq,hlg,hX,hY,rfl⟩
  refine z8 (q8 hT ?_)
  refine z4 (y4 (fun h=>?_) (fun h=>?_))
  ·have h:=k0q (show decide (ji<(((z2 S).length:Nat):Int))=true from h)
   have hi:i<S.length:=by omega
   refine z5 ?_
   have hs:=k0x hi
   have hsl:=hS _ (k1x hi)
   have hGi:=hGs i
   rw[getD_some hs]at hGi
   have hpS:X3 S (good i++[i])=X3 S (good i)++[S[i]]:=q3v (getD_some hs)
   generalize S[i]=s at hs hsl hGi hpS
   have hpR:X3 RB (good i++[i])=X3 RB (good i)++[RB.getD i []]:=q3v rfl
   have hRp:=hRg i (by omega)
   generalize RB.getD i []=ra at hRp hpR
   rw[show i=ji.toNat by omega]at hRp
   have hsp:(z2 S)[ji.toNat]?=some [bP s]:=by rw[hji,k0v];exact Q0 hs
   have hbs:=w6 s
   have hGl:=hgl i
   have hXl:(z2 X).length=(good i).length:=by rw[u5,hX,X3,k1y]
   have hYl:(z2 Y).length=(good i).length:=by rw[u5,hY,X3,k1y]
   rw[← hX]at hpR
   rw[← hY]at hpS
   generalize good i=G at *
   obtain⟨G1,hG1⟩:∃ G1,G1=good (i+1):=⟨_,rfl⟩
   rw[← hG1]at hGi
   refine y6 (fun st=>∃ (q':Nat) (lf' lg':Int) (X' Y':List z6),lf'=q'∧q'≤i+1∧G1.length=min q' 3∧((q'=0∧lg'=0)∨(0<q'∧lg'=c))∧X'=X3 RB G1∧Y'=X3 S G1∧st=⟨⟨136,[(0,.p (.sl 1 (z2 S))),(1,i64 3),(6,.p (.sl 1 R)),(8,i64 lg'),(9,.msl 0 1 0 (z2 X').length),(10,.msl 1 1 0 (z2 Y').length),(11,i64 lf'),(12,i64 ji)]⟩,[.row z0 1 (z2 X'),.row z0 1 (z2 Y')]⟩) (z3 (q8 hT ?_)) ?_
   ·refine⟨by omega,w9 hsp ?_⟩
    refine z8 (q8 hT ?_)
    refine z4 (y4 (fun h=>?_) (fun h=>?_))
    ·have h:((((bx s).length:Nat):Int)==0)=true:=h
     rw[beq_iff_eq]at h
     rw[k1t (show ¬ 0<s.length by omega),Bool.and_false]at hGi
     have hGi:G1=G:=hGi
     refine x6 ?_
     exact⟨_,q7 [0,1] [0,1,6,8,9,10,11,12] rfl,q,lf,lg,X,Y,hlf,by omega,by rw[hGi];exact hq,hlg,by rw[hGi];exact hX,by rw[hGi];exact hY,rfl⟩
    have h:((((bx s).length:Nat):Int)==0)=false:=h
    rw[beq_eq_false_iff_ne]at h
    have hsc:s.length=c:=by omega
    rw[k1u (show 0<s.length by omega),Bool.and_true]at hGi
    refine z5 ?_
    refine z7 ⟨⟨136,[(0,.p (.sl 1 (z2 S))),(1,i64 3),(6,.p (.sl 1 R)),(8,i64 lg),(9,.msl 0 1 0 (z2 X).length),(10,.msl 1 1 0 (z2 Y).length),(11,i64 lf),(12,i64 ji),(13,i64 c)]⟩,[.row z0 1 (z2 X),.row z0 1 (z2 Y)]⟩ True (q8 hT ?_) (fun _=>?_)
    ·rw[show (((bx s).length:Nat):Int)=(c:Int) by omega]
     refine y4 (fun h=>?_) (fun h=>?_)
     ·have h:=k0q (show decide ((c:Int) > 4096)=true from h)
      omega
     refine y4 (fun h=>?_) (fun h=>?_)
     ·have h:=k0q (show decide (lg > 0)=true from h)
      have hgc:lg=c:=by omega
      rw[hgc]
      refine z4 (y4 (fun h=>?_) (fun h=>?_))
      ·have h:((c:Int) != (c:Int))=true:=h
       rw[bne_self_eq_false]at h;cases h
      exact z5 ⟨q7 [0,1] [0,1,6,8,9,10,11,12,13] rfl,trivial⟩
     ·refine z4 ?_
      exact z5 ⟨q7 [0,1] [0,1,6,8,9,10,11,12,13] rfl,trivial⟩
    refine q8 hT ?_
    refine y6 (fun st=>∃ lf':Int,lf'=((q+1:Nat):Int)∧st=⟨⟨136,[(0,.p (.sl 1 (z2 S))),(1,i64 3),(6,.p (.sl 1 R)),(8,i64 c),(9,.msl 0 1 0 (z2 X).length),(10,.msl 1 1 0 (z2 Y).length),(11,i64 lf'),(12,i64 ji)]⟩,[.row z0 1 (z2 X),.row z0 1 (z2 Y)]⟩) (q9 hT ?_) ?_
    ·exact⟨_,q7 [0,1] [0,1,6,8,9,10,11,12] rfl,IntKind.i64.wrap (lf+1),by rw[y8 _ (by omega) (by omega)];omega,rfl⟩
    rintro _ ⟨lf',hlf',rfl⟩
    refine q8 hT ?_
    refine z4 (y4 (fun h=>?_) (fun h=>?_))
    ·have h:=k0q (show decide ((((z2 X).length:Nat):Int)<((3:Nat):Int))=true from h)
     rw[k1u (show G.length<3 by omega)]at hGi
     have hGi:G1=G++[i]:=hGi
     refine q8 hT ?_
     refine⟨by omega,w9 hRp ?_⟩
     refine⟨rfl,⟨by show ((z2 X).length+1)*24≤_;omega,by show (z2 X).length+1≤_;omega⟩,?_⟩
     refine q9 hT ?_
     refine⟨by omega,w9 hsp ?_⟩
     refine⟨rfl,⟨by show ((z2 Y).length+1)*24≤_;omega,by show (z2 Y).length+1≤_;omega⟩,?_⟩
     refine⟨_,q7 [3,5] [0,1,6,8,9,10,11,12] rfl,q+1,lf',c,X++[ra],Y++[s],hlf',by omega,by rw[hGi,k1z,List.length_singleton];omega,.inr ⟨by omega,rfl⟩,by rw[hGi];exact hpR.symm,by rw[hGi];exact hpS.symm,?_⟩
     rw[Y1,Y1];rfl
    ·have h:=k0z (show decide ((((z2 X).length:Nat):Int)<((3:Nat):Int))=false from h)
     rw[k1t (show ¬ G.length<3 by omega)]at hGi
     have hGi:G1=G:=hGi
     exact z5 ⟨_,q7 [0,1] [0,1,6,8,9,10,11,12] rfl,q+1,lf',c,X,Y,hlf',by omega,by rw[hGi];omega,.inr ⟨by omega,rfl⟩,by rw[hGi];exact hX,by rw[hGi];exact hY,rfl⟩
   ·rintro _ ⟨q',lf',lg',X',Y',g1,g2,g3,g4,g5,g6,rfl⟩
    refine q9 hT ?_
    exact⟨n - 1,by omega,_,q7 [0,1] [0,1,6,8,9,10,11,12] rfl,i+1,q',IntKind.i64.wrap (ji+1),lf',lg',X',Y',by omega,by rw[y8 _ (by omega) (by omega)];omega,g1,g2,by rw[← hG1];exact g3,g4,by rw[← hG1];exact g5,by rw[← hG1];exact g6,rfl⟩
  ·have h:=k0z (show decide (ji<(((z2 S).length:Nat):Int))=false from h)
   rw[show i=3+m by omega]at hq hX hY
   refine x6 ?_
   exact⟨_,q7 [0,1] [0,1,8,9,10,11] rfl,q,lf,lg,X,Y,hlf,hq,hlg,hX.trans hRB.symm,hY.trans hSO.symm,rfl⟩
 rintro _ ⟨q,lf,lg,X,Y,hlf,hq,hlg,hX,hY,rfl⟩
 rw[hX,hY]
 refine u6 (Z6 9 0 _ rfl rfl rfl rfl) ?_
 refine u6 (Z6 10 1 _ rfl rfl rfl rfl) ?_
 clear wr hRg hGs hgl hG0 hRB hSO hrl hRc hRR
 refine z7 ⟨⟨136,[(0,.p (.sl 1 (z2 S))),(1,i64 3),(8,i64 lg),(9,.p (.sl 1 (z2 BY))),(10,.p (.sl 1 (z2 OF)))]⟩,[]⟩ (¬ (good (3+m)).length<3) (q8 hT ?_) ?_
 ·refine z4 (y4 (fun h=>?_) (fun h=>?_))
  ·have h:=k0q (show decide (lf<((3:Nat):Int))=true from h)
   rw[k1u (show (good (3+m)).length<3 by omega)]at eD
   refine q8 hT ?_
   refine u6 (q1a 4 1 rfl) ?_
   refine y9 ?_
   exact z9 [] ⟨([],9),eD.symm,rfl,rfl⟩ rfl
  ·have h:=k0z (show decide (lf<((3:Nat):Int))=false from h)
   exact z5 ⟨q7 [] [0,1,8,9,10] rfl,by omega⟩
 intro hGk
 rw[k1t hGk]at eD
 have eD:Z=(D++q1g D m c,0):=eD
 have hGk:(good (3+m)).length=3:=by omega
 have hlgc:lg=(c:Int):=by omega
 rw[hlgc]
 have wslv:=hslv hGk
 obtain⟨hOl,hOr,hDl,hDr,hDg⟩:=hD hGk
 clear hslv hD hq hlg hlf hGk
 obtain⟨dB,hdB⟩:∃ dB:Z3,dB=fun i=>D.getD i []:=⟨_,rfl⟩
 have hdl:∀ i,i<3→(dB i).length=c:=fun i hi=>by
  rw[hdB]
  show (D.getD i []).length=c
  rw[k0w,k0x (by omega)]
  exact hDr _ (k1x _)
 have hDg:∀ i,i<3→∀ p,p<c→(dB i)[p]?=(q4r 3 BY (OF.map fun s:z6=>s.getD p 0))[i]?:=fun i hi p hp=>by rw[hdB];exact hDg i hi p hp
 have hDe:D=[dB 0,dB 1,dB 2]:=by rw[hdB];exact w3m hDl
 clear hdB
 refine z7 ⟨⟨136,[(0,.p (.sl 1 (z2 S))),(1,i64 3),(8,i64 c),(9,.p (.sl 1 (z2 BY))),(10,.p (.sl 1 (z2 OF))),(14,.msl 0 1 0 3)]⟩,[.cells z0 [.msl 1 1 0 (bx ([])).length,.msl 2 1 0 (bx ([])).length,.msl 3 1 0 (bx ([])).length],.row z1 1 (bx ([])),.row z1 1 (bx ([])),.row z1 1 (bx ([]))]⟩ True (q9 hT ?_) (fun _=>?_)
 ·refine⟨⟨rfl,(show (0:Int)≤((3:Nat):Int) by decide),(show ((3:Nat):Int)*24≤140737488355328 by decide),(show ((3:Nat):Int)≤140737488355328 by decide)⟩,?_⟩
  exact⟨Wk.trans (W6 0 [.raw (.slice none 0 0),.raw (.slice none 0 0),.raw (.slice none 0 0)] rfl rfl (by decide)) (Wk.trans (Q2 z1 1) (Wk.trans (Q2 z1 1) (Wk.trans (Q2 z1 1) ((Wk.trans (V0 0 [.msl 1 1 0 0,.msl 2 1 0 0,.msl 3 1 0 0] rfl ⟨.inr (.inr (.inl ⟨1,1,0,rfl,rfl⟩)),⟨.inr (.inr (.inl ⟨2,1,0,rfl,rfl⟩)),⟨.inr (.inr (.inl ⟨3,1,0,rfl,rfl⟩)),trivial⟩⟩⟩) (q7 [0,1,2,3] [0,1,8,9,10,14] rfl)))))),trivial⟩
 refine y6 (fun st=>∃ M:Z3,(∀ i,i<3→M i=dB i)∧st=⟨⟨136,[(0,.p (.sl 1 (z2 S))),(1,i64 3),(14,.msl 0 1 0 3)]⟩,[.cells z0 [.msl 1 1 0 (bx (M 0)).length,.msl 2 1 0 (bx (M 1)).length,.msl 3 1 0 (bx (M 2)).length],.row z1 1 (bx (M 0)),.row z1 1 (bx (M 1)),.row z1 1 (bx (M 2))]⟩) (q8 hT ?_) ?_
 ·refine z3 ?_
  refine y7 (fun n st=>∃ (p:Nat) (jp:Int) (M:Z3),n+p=c∧jp=p∧(∀ i,i<3→M i=(dB i).take p)∧st=⟨⟨136,[(0,.p (.sl 1 (z2 S))),(1,i64 3),(8,i64 c),(9,.p (.sl 1 (z2 BY))),(10,.p (.sl 1 (z2 OF))),(14,.msl 0 1 0 3),(15,i64 jp)]⟩,[.cells z0 [.msl 1 1 0 (bx (M 0)).length,.msl 2 1 0 (bx (M 1)).length,.msl 3 1 0 (bx (M 2)).length],.row z1 1 (bx (M 0)),.row z1 1 (bx (M 1)),.row z1 1 (bx (M 2))]⟩) c ⟨⟨136,_⟩,_⟩ (q7 [0,1,2,3] [0,1,8,9,10,14,15] rfl) ⟨0,0,fun _=>[],by omega,rfl,fun i _=>rfl,rfl⟩ ?_
  rintro n st ⟨p,jp,M,hnp,hjp,hM,rfl⟩
  refine z8 (q8 hT ?_)
  refine z4 (y4 (fun h=>?_) (fun h=>?_))
  ·have h:=k0q (show decide (jp<(c:Int))=true from h)
   have hp:p<c:=by omega
   refine z5 ?_
   have hpg:=fun i hi=>hDg i hi p hp
   have hcl:(OF.map fun s:z6=>s.getD p 0).length=3:=by rw[k1y];exact hOl
   have hcg:∀ (i:Nat) (s:z6),OF[i]?=some s→(OF.map fun s:z6=>s.getD p 0)[i]?=some (s.getD p 0):=fun i s h=>by rw[k1q,h];rfl
   generalize (OF.map fun s:z6=>s.getD p 0)=col at hpg hcl hcg
   have hsv:=wslv col hcl
   have hxl:=q5y 3 BY col
   generalize q4r 3 BY col=x at hsv hpg hxl
   have hxx:=w6 x
   refine y6 (fun st=>∃ M':Z3,(∀ i,i<3→M' i=(dB i).take (p+1))∧st=⟨⟨136,[(0,.p (.sl 1 (z2 S))),(1,i64 3),(8,i64 c),(9,.p (.sl 1 (z2 BY))),(10,.p (.sl 1 (z2 OF))),(14,.msl 0 1 0 3),(15,i64 jp)]⟩,[.cells z0 [.msl 1 1 0 (bx (M' 0)).length,.msl 2 1 0 (bx (M' 1)).length,.msl 3 1 0 (bx (M' 2)).length],.row z1 1 (bx (M' 0)),.row z1 1 (bx (M' 1)),.row z1 1 (bx (M' 2))]⟩) (z3 ?_) ?_
   ·refine z7 ⟨⟨136,[(0,.p (.sl 1 (z2 S))),(1,i64 3),(8,i64 c),(9,.p (.sl 1 (z2 BY))),(10,.p (.sl 1 (z2 OF))),(14,.msl 0 1 0 3),(15,i64 jp),(16,.msl 4 1 0 0)]⟩,[.cells z0 [.msl 1 1 0 (bx (M 0)).length,.msl 2 1 0 (bx (M 1)).length,.msl 3 1 0 (bx (M 2)).length],.row z1 1 (bx (M 0)),.row z1 1 (bx (M 1)),.row z1 1 (bx (M 2)),.row z1 1 (bx [])]⟩ True (q9 hT ?_) (fun _=>?_)
    ·exact⟨Wk.trans (Q2 z1 1) (Wk.trans (V6 16 4 1 0 rfl) (q7 [0,1,2,3,4] [0,1,8,9,10,14,15,16] rfl)),trivial⟩
    refine y6 (fun st=>∃ W,W=col∧st=⟨⟨136,[(0,.p (.sl 1 (z2 S))),(1,i64 3),(8,i64 c),(9,.p (.sl 1 (z2 BY))),(10,.p (.sl 1 (z2 OF))),(14,.msl 0 1 0 3),(15,i64 jp),(16,.msl 4 1 0 (bx W).length)]⟩,[.cells z0 [.msl 1 1 0 (bx (M 0)).length,.msl 2 1 0 (bx (M 1)).length,.msl 3 1 0 (bx (M 2)).length],.row z1 1 (bx (M 0)),.row z1 1 (bx (M 1)),.row z1 1 (bx (M 2)),.row z1 1 (bx W)]⟩) (q8 hT ?_) ?_
    ·refine z3 ?_
     refine y7 (fun n st=>∃ (i:Nat) (ji:Int) (W:z6),n+i=3∧ji=i∧W=col.take i∧st=⟨⟨136,[(0,.p (.sl 1 (z2 S))),(1,i64 3),(8,i64 c),(9,.p (.sl 1 (z2 BY))),(10,.p (.sl 1 (z2 OF))),(14,.msl 0 1 0 3),(15,i64 jp),(16,.msl 4 1 0 (bx W).length),(17,i64 ji)]⟩,[.cells z0 [.msl 1 1 0 (bx (M 0)).length,.msl 2 1 0 (bx (M 1)).length,.msl 3 1 0 (bx (M 2)).length],.row z1 1 (bx (M 0)),.row z1 1 (bx (M 1)),.row z1 1 (bx (M 2)),.row z1 1 (bx W)]⟩) 3 ⟨⟨136,_⟩,_⟩ (q7 [0,1,2,3,4] [0,1,8,9,10,14,15,16,17] rfl) ⟨0,0,[],rfl,rfl,rfl,rfl⟩ ?_
     rintro n2 st ⟨i,ji,W,hni,hji,hW,rfl⟩
     refine z8 (q8 hT ?_)
     refine z4 (y4 (fun h=>?_) (fun h=>?_))
     ·have h:=k0q (show decide (ji<((3:Nat):Int))=true from h)
      have hi:i<OF.length:=by omega
      refine z5 ?_
      have hs:=k0x hi
      have hsl:=hOr _ (k1x hi)
      generalize OF[i]=s at hs hsl
      have hv:=hcg i s hs
      have hsp:(z2 OF)[ji.toNat]?=some [bP s]:=by rw[hji,k0v];exact Q0 hs
      have hvp:(bx s)[jp.toNat]?=some [u8 (s.getD p 0)]:=by rw[hjp,k0v];exact u7 (Q3 (by omega))
      generalize s.getD p 0=v at hv hvp
      have hWl:(bx W).length≤3:=by rw[w6,hW,k2u];omega
      have hW1:col.take (i+1)=W++[v]:=by rw[k2t,hv,hW];rfl
      refine y6 (fun st=>∃ W',W'=W++[v]∧st=⟨⟨136,[(0,.p (.sl 1 (z2 S))),(1,i64 3),(8,i64 c),(9,.p (.sl 1 (z2 BY))),(10,.p (.sl 1 (z2 OF))),(14,.msl 0 1 0 3),(15,i64 jp),(16,.msl 4 1 0 (bx W').length),(17,i64 ji)]⟩,[.cells z0 [.msl 1 1 0 (bx (M 0)).length,.msl 2 1 0 (bx (M 1)).length,.msl 3 1 0 (bx (M 2)).length],.row z1 1 (bx (M 0)),.row z1 1 (bx (M 1)),.row z1 1 (bx (M 2)),.row z1 1 (bx W')]⟩) (z3 (q9 hT ?_)) ?_
      ·refine⟨by omega,w9 hsp ?_⟩
       refine⟨by omega,w9 hvp ?_⟩
       refine⟨rfl,⟨by show ((bx W).length+1)*1≤_;omega,by show (bx W).length+1≤_;omega⟩,?_⟩
       refine⟨_,q7 [0,1,2,3,6] [0,1,8,9,10,14,15,16,17] rfl,_,rfl,?_⟩
       rw[Y9];rfl
      ·rintro _ ⟨W',hW',rfl⟩
       refine q9 hT ?_
       exact⟨n2 - 1,by omega,_,q7 [0,1,2,3,4] [0,1,8,9,10,14,15,16,17] rfl,i+1,IntKind.i64.wrap (ji+1),W',by omega,by rw[y8 _ (by omega) (by omega)];omega,by rw[hW1];exact hW',rfl⟩
     ·have h:=k0z (show decide (ji<((3:Nat):Int))=false from h)
      rw[k2z (by omega)]at hW
      refine x6 ?_
      exact⟨_,q7 [0,1,2,3,4] [0,1,8,9,10,14,15,16] rfl,W,hW,rfl⟩
    rintro _ ⟨W,hW,rfl⟩
    rw[← hW]at hsv
    clear hcg hcl hW
    refine u6 (Z6 16 4 _ rfl rfl rfl rfl) ?_
    refine z7 ⟨⟨136,[(0,.p (.sl 1 (z2 S))),(1,i64 3),(8,i64 c),(9,.p (.sl 1 (z2 BY))),(10,.p (.sl 1 (z2 OF))),(14,.msl 0 1 0 3),(15,i64 jp),(18,bA x)]⟩,[.cells z0 [.msl 1 1 0 (bx (M 0)).length,.msl 2 1 0 (bx (M 1)).length,.msl 3 1 0 (bx (M 2)).length],.row z1 1 (bx (M 0)),.row z1 1 (bx (M 1)),.row z1 1 (bx (M 2))]⟩ True (q9 hT ?_) (fun _=>?_)
    ·refine x7 (w7 hsv _ rfl rfl) ?_
     exact⟨q7 [0,1,2,3] [0,1,8,9,10,14,15,18] rfl,trivial⟩
    refine q8 hT ?_
    refine z3 ?_
    refine y7 (fun n st=>∃ (i:Nat) (ji:Int) (N:Z3),n+i=3∧ji=i∧(∀ j,j<3→N j=(dB j).take (if j<i then p+1 else p))∧st=⟨⟨136,[(0,.p (.sl 1 (z2 S))),(1,i64 3),(8,i64 c),(9,.p (.sl 1 (z2 BY))),(10,.p (.sl 1 (z2 OF))),(14,.msl 0 1 0 3),(15,i64 jp),(18,bA x),(19,i64 ji)]⟩,[.cells z0 [.msl 1 1 0 (bx (N 0)).length,.msl 2 1 0 (bx (N 1)).length,.msl 3 1 0 (bx (N 2)).length],.row z1 1 (bx (N 0)),.row z1 1 (bx (N 1)),.row z1 1 (bx (N 2))]⟩) 3 ⟨⟨136,_⟩,_⟩ (q7 [0,1,2,3] [0,1,8,9,10,14,15,18,19] rfl) ⟨0,0,M,rfl,rfl,fun j hj=>by rw[if_neg (by omega)];exact hM j hj,rfl⟩ ?_
    rintro n2 st ⟨i,ji,N,hni,hji,hN,rfl⟩
    refine z8 (q8 hT ?_)
    refine z4 (y4 (fun h=>?_) (fun h=>?_))
    ·have h:=k0q (show decide (ji<((3:Nat):Int))=true from h)
     have hi4:i=0∨i=1∨i=2:=by omega
     subst hji
     refine z5 ?_
     refine y6 (fun st=>∃ N':Z3,(∀ j,j<3→N' j=(dB j).take (if j<i+1 then p+1 else p))∧st=⟨⟨136,[(0,.p (.sl 1 (z2 S))),(1,i64 3),(8,i64 c),(9,.p (.sl 1 (z2 BY))),(10,.p (.sl 1 (z2 OF))),(14,.msl 0 1 0 3),(15,i64 jp),(18,bA x),(19,i64 i)]⟩,[.cells z0 [.msl 1 1 0 (bx (N' 0)).length,.msl 2 1 0 (bx (N' 1)).length,.msl 3 1 0 (bx (N' 2)).length],.row z1 1 (bx (N' 0)),.row z1 1 (bx (N' 1)),.row z1 1 (bx (N' 2))]⟩) (z3 ?_) ?_
     ·let I:=i
      have hI:I<3:=by show i<3;omega
      have hN:∀ j,j<3→N j=(dB j).take (if j<I then p+1 else p):=hN
      rcases hi4 with rfl|rfl|rfl
      all_goals
       have hxi:=hpg I hI
       have hxg:=Q3 (l:=x) (c:=I) (by omega)
       rw[hxg]at hxi
       generalize x.getD I 0=v at hxg hxi
       have hxp:(bx x)[((I:Nat):Int).toNat]?=some [u8 v]:=u7 hxg
       have hNi:=hN I hI
       rw[if_neg (Nat.lt_irrefl I)]at hNi
       have hNl:(bx (N I)).length≤4096:=by rw[w6,hNi,k2u];omega
       have hN1:(dB I).take (p+1)=N I++[v]:=by rw[k2t,hxi,hNi];rfl
       refine v7 [11,13] [10] hT y5 (by rfl) ?_
       refine⟨by omega,?_⟩
       refine⟨by omega,w9 hxp ?_⟩
       refine⟨⟨rfl,rfl⟩,?_⟩
       refine⟨rfl,⟨by show ((bx (N I)).length+1)*1≤_;omega,by show (bx (N I)).length+1≤_;omega⟩,?_⟩
       refine⟨by omega,?_⟩
       repeat first|refine⟨rfl,?_⟩|refine⟨⟨by omega,rfl⟩,?_⟩|refine⟨⟨by omega,w9 hxp rfl⟩,?_⟩
       refine⟨_,q7 [0,pkI I 4 0,pkI I 4 1,pkI I 4 2] [0,1,8,9,10,14,15,18,19] rfl,U5 N I (N I++[v]),fun j hj=>?_,?_⟩
       ·rw[q0h]
        show (if j=I then _ else _)=(dB j).take (if j<I+1 then p+1 else p)
        by_cases e:j=I
        ·rw[if_pos e,e,if_pos (Nat.lt_succ_self I)];exact hN1.symm
        ·rw[if_neg e,hN j hj]
         by_cases e2:j<I
         ·rw[if_pos e2,if_pos (by omega)]
         ·rw[if_neg e2,if_neg (by omega)]
       ·rw[show bx (U5 N I (N I++[v]) I)=bx (N I)++[[u8 v]] by rw[q0h,if_pos rfl];exact Y9 _ _];rfl
     ·rintro _ ⟨N',hN',rfl⟩
      refine q9 hT ?_
      exact⟨n2 - 1,by omega,_,q7 [0,1,2,3] [0,1,8,9,10,14,15,18,19] rfl,i+1,IntKind.i64.wrap ((i:Int)+1),N',by omega,by rw[y8 _ (by omega) (by omega)];rfl,hN',rfl⟩
    ·have h:=k0z (show decide (ji<((3:Nat):Int))=false from h)
     refine x6 ?_
     exact⟨_,q7 [0,1,2,3] [0,1,8,9,10,14,15] rfl,N,fun j hj=>by rw[hN j hj,if_pos (by omega)],rfl⟩
   ·rintro _ ⟨M',hM',rfl⟩
    refine q9 hT ?_
    exact⟨n - 1,by omega,_,q7 [0,1,2,3] [0,1,8,9,10,14,15] rfl,p+1,IntKind.i64.wrap (jp+1),M',by omega,by rw[y8 _ (by omega) (by omega)];omega,hM',rfl⟩
  ·have h:=k0z (show decide (jp<(c:Int))=false from h)
   refine x6 ?_
   exact⟨_,q7 [0,1,2,3] [0,1,14] rfl,M,fun i hi=>by rw[hM i hi,k2z (by rw[hdl i hi];omega)],rfl⟩
 rintro _ ⟨M,hM,rfl⟩
 rw[← hM 0 (by decide),← hM 1 (by decide),← hM 2 (by decide)]at hDe
 have we:=q5h D m c (by omega) m1 (by omega) c1 c2 hDr
 have hEl:=q3b D m c
 clear hdl hDg hM wslv hDr hDl
 subst hDe
 generalize q1g [M 0,M 1,M 2] m c=E at we hEl eD
 rw[← hm]at we
 have we:AFm Tryz.prog 1 q1y [.msl 0 1 0 3,i64 (IntKind.i64.wrap ((((z2 S).length:Nat):Int) - ((3:Nat):Int)))] [.row z0 1 (z2 [M 0,M 1,M 2])] (v8 (.tup [.p (.sl 1 (z2 E)),i64 0]) [.row z0 1 (z2 [M 0,M 1,M 2])]):=we
 have hEc:=u5 E
 refine u6 (Wk.trans (X2 1 0 0 _ rfl rfl rfl rfl) (Wk.trans (X2 2 0 1 _ rfl rfl rfl rfl) (Wk.trans (X2 3 0 2 _ rfl rfl rfl rfl) (Wk.trans (U3 0 [bP (M 0),bP (M 1),bP (M 2)] rfl rfl (show 3≤140737488355328 by decide)) (q7 [0] [0,1,14] rfl))))) ?_
 refine z7 ⟨⟨136,[(14,.msl 0 1 0 3),(20,.p (.sl 1 (z2 E)))]⟩,[.row z0 1 (z2 [M 0,M 1,M 2])]⟩ True (q9 hT ?_) (fun _=>?_)
 ·refine x7 (Q7 [0] we rfl rfl rfl) ?_
  exact⟨q7 [0] [14,20] rfl,trivial⟩
 refine q8 hT ?_
 refine⟨rfl,⟨by show (3+(z2 E).length)*24≤_;omega,by show 3+(z2 E).length≤_;omega⟩,?_⟩
 refine u6 (Z6 4 1 _ rfl rfl rfl rfl) ?_
 refine y9 ?_
 exact z9 [] ⟨([M 0,M 1,M 2]++E,0),eD.symm,(by show AV.tup [.p (.sl 1 (z2 [M 0,M 1,M 2]++z2 E)),i64 0]=_;rw[← Y1]),rfl⟩ rfl
end Go.Proofs.YtinfbclgkghgaaaGreat.AL
