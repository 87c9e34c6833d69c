/- A part of the proof. -/
import Derived.ProofKit
import Derived.OpenShut
import Derived.ChangeOld
import Derived.Below
import Derived.SizedLaws
import Derived.Deep.Slices
import Derived.Lib.SmallJoins
import Derived.Laws.IdiomArrays
import Derived.Test.YtinfbclgkghgaaaGreatRows
import Derived.JoinedOf
import Derived.Test.YtinfbclgkghgaaaGreatSnipP
open Option.some renaming inj→k0y
open List renaming getElem?_eq_getElem→k0x,getD_eq_getElem?_getD→k0w,getElem?_eq_some_iff→k0u,getElem?_map→k1q,length_append→k1z,length_map→k1y,getElem_mem→k1x,take_of_length_le→k2z,length_take→k2u,take_add_one→k2t
open Int renaming toNat_natCast→k0v
open Nat renaming le_refl→k1w
set_option maxHeartbeats 16000000
set_option maxRecDepth 20000
namespace Go.Proofs.YtinfbclgkghgaaaGreat.AL
open Go Go.Proofs
theorem x0c (a0 a1 a2 a3 Y:z6)(hA:∀ s∈([a0,a1,a2,a3]:List z6),s.length=4)(hk:∀ x,q2t 4 (fun i=>([a0,a1,a2,a3]:List z6).getD i []) x→∀ j,j<4→x j=0)(hY:Y.length=4) :
 AF Tryz.prog J3 [.p (.sl 1 (z2 [a0,a1,a2,a3])),bA Y] [] (v8 (bA (q4r 4 [a0,a1,a2,a3] Y)) []):=by
 refine AF.mono (R:=fun r H'=>∃ z,z=q4r 4 [a0,a1,a2,a3] Y∧r=bA z∧H'=[]) ?_ (by rintro r H' ⟨z,rfl,rfl,rfl⟩;exact⟨rfl,rfl⟩)
 have ha0:a0.length=4:=hA a0 (by simp)
 have hx0:=w6 a0
 have hy0:(bx Y)[((0:Nat):Int).toNat]?=some [u8 (Y.getD 0 0)]:=u7 (Q3 (by omega))
 have ha1:a1.length=4:=hA a1 (by simp)
 have hx1:=w6 a1
 have hy1:(bx Y)[((1:Nat):Int).toNat]?=some [u8 (Y.getD 1 0)]:=u7 (Q3 (by omega))
 have ha2:a2.length=4:=hA a2 (by simp)
 have hx2:=w6 a2
 have hy2:(bx Y)[((2:Nat):Int).toNat]?=some [u8 (Y.getD 2 0)]:=u7 (Q3 (by omega))
 have ha3:a3.length=4:=hA a3 (by simp)
 have hx3:=w6 a3
 have hy3:(bx Y)[((3:Nat):Int).toNat]?=some [u8 (Y.getD 3 0)]:=u7 (Q3 (by omega))
 have h0:=z8n (r:=4) (L:=[a0,a1,a2,a3]) (y:=(fun j=>Y.getD j 0)) rfl hA hk
 have hend:=fun M (h:SolI 4 [a0,a1,a2,a3] (fun j=>Y.getD j 0) 4 M)=>y3p (r:=4) rfl hA hk h
 have hzl:=q5y 4 [a0,a1,a2,a3] Y
 have hzg:=fun i (hi:i<4)=>z2t [a0,a1,a2,a3] Y hi
 have wD:=q9f
 have wM:=q6v
 have wA:=q6u
 generalize q4r 4 [a0,a1,a2,a3] Y=Z at hzl hzg
 obtain⟨M0,hM0⟩:∃ M0:Z3,M0=fun i=>([a0,a1,a2,a3]:List z6).getD i []++[Y.getD i 0]:=⟨_,rfl⟩
 have hm0:bx (M0 0)=bx a0++[[u8 (Y.getD 0 0)]]:=by rw[hM0];exact Y9 _ _
 have hm1:bx (M0 1)=bx a1++[[u8 (Y.getD 1 0)]]:=by rw[hM0];exact Y9 _ _
 have hm2:bx (M0 2)=bx a2++[[u8 (Y.getD 2 0)]]:=by rw[hM0];exact Y9 _ _
 have hm3:bx (M0 3)=bx a3++[[u8 (Y.getD 3 0)]]:=by rw[hM0];exact Y9 _ _
 rw[show (fun i=>([a0,a1,a2,a3]:List z6).getD i []++[(fun j=>Y.getD j 0) i])=M0 from hM0.symm]at h0
 obtain⟨S,hS⟩:∃ S,S=SolI 4 [a0,a1,a2,a3] (fun j=>Y.getD j 0):=⟨_,rfl⟩
 obtain⟨E,hE⟩:∃ E,E=SolE 4 [a0,a1,a2,a3] (fun j=>Y.getD j 0):=⟨_,rfl⟩
 have sLen:∀ {c M},S c M→∀ i,i<4→(M i).length=5:=fun h=>by subst hS;exact h.len
 have sSwap:∀ {c p M},S c M→c<4→c≤p→p<4→S c (swp M c p):=fun h h1 h2 h3=>by subst hS;exact z8p h h1 h2 h3
 have sPiv:∀ {c M},S c M→c<4→(∀ p,c≤p→p<4→(M p).getD c 0=0)→False:=fun h h1 h2=>by subst hS;exact y3n h h1 h2
 have sFirst:∀ {c M},S c M→(M c).getD c 0≠0→E c 0 M:=fun h h1=>by subst hS hE;exact z4f h h1
 have sSkip:∀ {c M},E c c M→E c (c+1) M:=fun h=>by subst hE;exact z8q h
 have sEl:∀ {c k M},E c k M→c<4→k<4→k≠c→∀ q,q=Gf.mul ((M k).getD c 0) (Gf.inv ((M c).getD c 0))→E c (k+1) (U5 M k (J4 (M k) (M c) q)):=fun h h1 h2 h3 q hq=>by subst hE;exact x6r h h1 h2 h3 q hq
 have sELen:∀ {c k M},E c k M→∀ i,i<4→(M i).length=5:=fun h=>by subst hE;exact h.sol.len
 have sEPiv:∀ {c k M},E c k M→(M c).getD c 0≠0:=fun h=>by subst hE;exact h.piv
 have sNext:∀ {c M},E c 4 M→S (c+1) M:=fun h=>by subst hS hE;exact z8r h
 rw[← hS]at h0 hend
 clear hS hE hk hA
 refine v6 hT q4h rfl rfl q4i rfl ?_
 refine q8 hT ?_
 refine z7 ⟨⟨173,[(0,.p (.sl 1 (z2 [a0,a1,a2,a3]))),(1,bA Y),(5,i64 4)]⟩,[]⟩ True (q9 hT ?_) (fun _=>?_)
 ·exact⟨q7 [] [0,1,5] rfl,trivial⟩
 refine z7 ⟨⟨173,[(0,.p (.sl 1 (z2 [a0,a1,a2,a3]))),(1,bA Y),(5,i64 4),(6,.p (.raw (.slice none 0 0)))]⟩,[]⟩ True (q9 hT ?_) (fun _=>?_)
 ·exact⟨q7 [] [0,1,5,6] rfl,trivial⟩
 refine z7 ⟨⟨173,[(5,i64 4),(6,.msl 0 1 0 4)]⟩,[.cells z0 [.msl 1 1 0 5,.msl 2 1 0 5,.msl 3 1 0 5,.msl 4 1 0 5],.row z1 1 (bx (M0 0)),.row z1 1 (bx (M0 1)),.row z1 1 (bx (M0 2)),.row z1 1 (bx (M0 3))]⟩ True (q8 hT ?_) (fun _=>?_)
 ·refine z3 ?_
  refine y7 (fun n s=>(n=4∧s=⟨⟨173,[(0,.p (.sl 1 (z2 [a0,a1,a2,a3]))),(1,bA Y),(5,i64 4),(6,.p (.raw (.slice none 0 0))),(7,i64 0)]⟩,[]⟩)∨(n=3∧s=⟨⟨173,[(0,.p (.sl 1 (z2 [a0,a1,a2,a3]))),(1,bA Y),(5,i64 4),(6,.msl 0 1 0 1),(7,i64 1)]⟩,[.cells z0 [.msl 1 1 0 5],.row z1 1 (bx (M0 0))]⟩)∨(n=2∧s=⟨⟨173,[(0,.p (.sl 1 (z2 [a0,a1,a2,a3]))),(1,bA Y),(5,i64 4),(6,.msl 0 1 0 2),(7,i64 2)]⟩,[.cells z0 [.msl 1 1 0 5,.msl 2 1 0 5],.row z1 1 (bx (M0 0)),.row z1 1 (bx (M0 1))]⟩)∨(n=1∧s=⟨⟨173,[(0,.p (.sl 1 (z2 [a0,a1,a2,a3]))),(1,bA Y),(5,i64 4),(6,.msl 0 1 0 3),(7,i64 3)]⟩,[.cells z0 [.msl 1 1 0 5,.msl 2 1 0 5,.msl 3 1 0 5],.row z1 1 (bx (M0 0)),.row z1 1 (bx (M0 1)),.row z1 1 (bx (M0 2))]⟩)∨(n=0∧s=⟨⟨173,[(0,.p (.sl 1 (z2 [a0,a1,a2,a3]))),(1,bA Y),(5,i64 4),(6,.msl 0 1 0 4),(7,i64 4)]⟩,[.cells z0 [.msl 1 1 0 5,.msl 2 1 0 5,.msl 3 1 0 5,.msl 4 1 0 5],.row z1 1 (bx (M0 0)),.row z1 1 (bx (M0 1)),.row z1 1 (bx (M0 2)),.row z1 1 (bx (M0 3))]⟩)) 4 ⟨⟨173,_⟩,_⟩ (q7 [] [0,1,5,6,7] rfl) (.inl ⟨rfl,rfl⟩) ?_
  rintro n s (⟨rfl,rfl⟩|⟨rfl,rfl⟩|⟨rfl,rfl⟩|⟨rfl,rfl⟩|⟨rfl,rfl⟩)
  ·refine z8 (q8 hT ?_)
   refine z4 ?_
   refine z5 ?_
   refine y6 (fun st=>∃ (n:Nat) (X:List (List PV)),n=5∧X=bx (M0 0)∧st=⟨⟨173,[(0,.p (.sl 1 (z2 [a0,a1,a2,a3]))),(1,bA Y),(5,i64 4),(6,.msl 0 1 0 1),(7,i64 0)]⟩,[.cells z0 [.msl 1 1 0 n],.row z1 1 (X)]⟩) (z3 (q8 hT ?_)) ?_
   ·refine⟨by decide,w9 rfl ?_⟩
    refine⟨⟨by show (bx a0).length*1≤_;omega,by omega⟩,?_⟩
    refine q9 hT ?_
    refine⟨by omega,w9 hy0 ?_⟩
    refine⟨rfl,⟨by show ((bx a0).length+1)*1≤_;omega,by show (bx a0).length+1≤_;omega⟩,?_⟩
    refine⟨⟨(show (1:Nat)*24≤140737488355328 by decide),(show (1:Nat)≤140737488355328 by decide)⟩,?_⟩
    refine⟨_,q7 [4,2] [0,1,5,6,7] rfl,_,_,?_,hm0.symm,rfl⟩
    show (bx a0++[[u8 (Y.getD 0 0)]]).length=5
    rw[k1z,hx0,ha0];rfl
   ·rintro _ ⟨n,X,rfl,rfl,rfl⟩
    refine q9 hT ?_
    exact⟨3,by decide,_,q7 [0,1] [0,1,5,6,7] rfl,(.inr (.inl ⟨rfl,rfl⟩))⟩
  ·refine z8 (q8 hT ?_)
   refine z4 ?_
   refine z5 ?_
   refine y6 (fun st=>∃ (n:Nat) (X:List (List PV)),n=5∧X=bx (M0 1)∧st=⟨⟨173,[(0,.p (.sl 1 (z2 [a0,a1,a2,a3]))),(1,bA Y),(5,i64 4),(6,.msl 0 1 0 2),(7,i64 1)]⟩,[.cells z0 [.msl 1 1 0 5,.msl 2 1 0 n],.row z1 1 (bx (M0 0)),.row z1 1 (X)]⟩) (z3 (q8 hT ?_)) ?_
   ·refine⟨by decide,w9 rfl ?_⟩
    refine⟨⟨by show (bx a1).length*1≤_;omega,by omega⟩,?_⟩
    refine q9 hT ?_
    refine⟨by omega,w9 hy1 ?_⟩
    refine⟨rfl,⟨by show ((bx a1).length+1)*1≤_;omega,by show (bx a1).length+1≤_;omega⟩,?_⟩
    refine⟨⟨(show (2:Nat)*24≤140737488355328 by decide),(show (2:Nat)≤140737488355328 by decide)⟩,?_⟩
    refine⟨_,q7 [6,1,4] [0,1,5,6,7] rfl,_,_,?_,hm1.symm,rfl⟩
    show (bx a1++[[u8 (Y.getD 1 0)]]).length=5
    rw[k1z,hx1,ha1];rfl
   ·rintro _ ⟨n,X,rfl,rfl,rfl⟩
    refine q9 hT ?_
    exact⟨2,by decide,_,q7 [0,1,2] [0,1,5,6,7] rfl,(.inr (.inr (.inl ⟨rfl,rfl⟩)))⟩
  ·refine z8 (q8 hT ?_)
   refine z4 ?_
   refine z5 ?_
   refine y6 (fun st=>∃ (n:Nat) (X:List (List PV)),n=5∧X=bx (M0 2)∧st=⟨⟨173,[(0,.p (.sl 1 (z2 [a0,a1,a2,a3]))),(1,bA Y),(5,i64 4),(6,.msl 0 1 0 3),(7,i64 2)]⟩,[.cells z0 [.msl 1 1 0 5,.msl 2 1 0 5,.msl 3 1 0 n],.row z1 1 (bx (M0 0)),.row z1 1 (bx (M0 1)),.row z1 1 (X)]⟩) (z3 (q8 hT ?_)) ?_
   ·refine⟨by decide,w9 rfl ?_⟩
    refine⟨⟨by show (bx a2).length*1≤_;omega,by omega⟩,?_⟩
    refine q9 hT ?_
    refine⟨by omega,w9 hy2 ?_⟩
    refine⟨rfl,⟨by show ((bx a2).length+1)*1≤_;omega,by show (bx a2).length+1≤_;omega⟩,?_⟩
    refine⟨⟨(show (3:Nat)*24≤140737488355328 by decide),(show (3:Nat)≤140737488355328 by decide)⟩,?_⟩
    refine⟨_,q7 [7,1,2,5] [0,1,5,6,7] rfl,_,_,?_,hm2.symm,rfl⟩
    show (bx a2++[[u8 (Y.getD 2 0)]]).length=5
    rw[k1z,hx2,ha2];rfl
   ·rintro _ ⟨n,X,rfl,rfl,rfl⟩
    refine q9 hT ?_
    exact⟨1,by decide,_,q7 [0,1,2,3] [0,1,5,6,7] rfl,(.inr (.inr (.inr (.inl ⟨rfl,rfl⟩))))⟩
  ·refine z8 (q8 hT ?_)
   refine z4 ?_
   refine z5 ?_
   refine y6 (fun st=>∃ (n:Nat) (X:List (List PV)),n=5∧X=bx (M0 3)∧st=⟨⟨173,[(0,.p (.sl 1 (z2 [a0,a1,a2,a3]))),(1,bA Y),(5,i64 4),(6,.msl 0 1 0 4),(7,i64 3)]⟩,[.cells z0 [.msl 1 1 0 5,.msl 2 1 0 5,.msl 3 1 0 5,.msl 4 1 0 n],.row z1 1 (bx (M0 0)),.row z1 1 (bx (M0 1)),.row z1 1 (bx (M0 2)),.row z1 1 (X)]⟩) (z3 (q8 hT ?_)) ?_
   ·refine⟨by decide,w9 rfl ?_⟩
    refine⟨⟨by show (bx a3).length*1≤_;omega,by omega⟩,?_⟩
    refine q9 hT ?_
    refine⟨by omega,w9 hy3 ?_⟩
    refine⟨rfl,⟨by show ((bx a3).length+1)*1≤_;omega,by show (bx a3).length+1≤_;omega⟩,?_⟩
    refine⟨⟨(show (4:Nat)*24≤140737488355328 by decide),(show (4:Nat)≤140737488355328 by decide)⟩,?_⟩
    refine⟨_,q7 [8,1,2,3,6] [0,1,5,6,7] rfl,_,_,?_,hm3.symm,rfl⟩
    show (bx a3++[[u8 (Y.getD 3 0)]]).length=5
    rw[k1z,hx3,ha3];rfl
   ·rintro _ ⟨n,X,rfl,rfl,rfl⟩
    refine q9 hT ?_
    exact⟨0,by decide,_,q7 [0,1,2,3,4] [0,1,5,6,7] rfl,(.inr (.inr (.inr (.inr ⟨rfl,rfl⟩))))⟩
  ·refine z8 (q8 hT ?_)
   refine z4 ?_
   refine x6 ?_
   exact⟨q7 [0,1,2,3,4] [5,6] rfl,trivial⟩
 refine y6 (fun st=>∃ M,S 4 M∧st=⟨⟨173,[(5,i64 4),(6,.msl 0 1 0 4)]⟩,[.cells z0 [.msl 1 1 0 5,.msl 2 1 0 5,.msl 3 1 0 5,.msl 4 1 0 5],.row z1 1 (bx (M 0)),.row z1 1 (bx (M 1)),.row z1 1 (bx (M 2)),.row z1 1 (bx (M 3))]⟩) (q8 hT ?_) ?_
 ·refine z3 ?_
  refine y7 (fun n s=>∃ (c:Nat) (jc:Int) (M:Z3),n+c=4∧jc=c∧S c M∧s=⟨⟨173,[(5,i64 4),(6,.msl 0 1 0 4),(9,i64 jc)]⟩,[.cells z0 [.msl 1 1 0 5,.msl 2 1 0 5,.msl 3 1 0 5,.msl 4 1 0 5],.row z1 1 (bx (M 0)),.row z1 1 (bx (M 1)),.row z1 1 (bx (M 2)),.row z1 1 (bx (M 3))]⟩) 4 ⟨⟨173,_⟩,_⟩ (q7 [0,1,2,3,4] [5,6,9] rfl) ⟨0,0,M0,rfl,rfl,h0,rfl⟩ ?_
  rintro n s ⟨c,jc,M,hnc,hjc,hM,rfl⟩
  refine z8 (q8 hT ?_)
  refine z4 (y4 (fun h=>?_) (fun h=>?_))
  ·have h:=k0q (show decide (jc<((4:Nat):Int))=true from h)
   refine z5 ?_
   subst hjc
   let C:=c
   have hC:C<4:=by show c<4;omega
   have hM:S C M:=hM
   have hlen:=sLen hM
   have hc4:c=0∨c=1∨c=2∨c=3:=by omega
   refine y6 (fun st=>∃ M,S (C+1) M∧st=⟨⟨173,[(5,i64 4),(6,.msl 0 1 0 4),(9,i64 C)]⟩,[.cells z0 [.msl 1 1 0 5,.msl 2 1 0 5,.msl 3 1 0 5,.msl 4 1 0 5],.row z1 1 (bx (M 0)),.row z1 1 (bx (M 1)),.row z1 1 (bx (M 2)),.row z1 1 (bx (M 3))]⟩) (z3 ?_) ?_
   ·rcases hc4 with rfl|rfl|rfl|rfl
    all_goals
     refine q8 hT ?_
     refine y6 (fun st=>∃ p:Nat,(C≤p∧p<4∧(M p).getD C 0≠0)∧st=⟨⟨173,[(5,i64 4),(6,.msl 0 1 0 4),(9,i64 C),(10,i64 p)]⟩,[.cells z0 [.msl 1 1 0 5,.msl 2 1 0 5,.msl 3 1 0 5,.msl 4 1 0 5],.row z1 1 (bx (M 0)),.row z1 1 (bx (M 1)),.row z1 1 (bx (M 2)),.row z1 1 (bx (M 3))]⟩) (z3 ?_) ?_
     ·refine y7 (fun n s=>∃ (p:Nat) (jp:Int),n+p=4∧jp=p∧C≤p∧p<4∧(∀ j,C≤j→j<p→(M j).getD C 0=0)∧s=⟨⟨173,[(5,i64 4),(6,.msl 0 1 0 4),(9,i64 C),(10,i64 jp)]⟩,[.cells z0 [.msl 1 1 0 5,.msl 2 1 0 5,.msl 3 1 0 5,.msl 4 1 0 5],.row z1 1 (bx (M 0)),.row z1 1 (bx (M 1)),.row z1 1 (bx (M 2)),.row z1 1 (bx (M 3))]⟩) (4 - C) ⟨⟨173,_⟩,_⟩ (q7 [0,1,2,3,4] [5,6,9,10] rfl) ⟨C,C,rfl,rfl,k1w _,hC,fun j h1 h2=>by omega,rfl⟩ ?_
      rintro n s ⟨p,jp,hnp,hjp,hp1,hp2,hz,rfl⟩
      subst hjp
      have hp4:p=0∨p=1∨p=2∨p=3:=by omega
      let P:=p
      have hz:∀ j,C≤j→j<P→(M j).getD C 0=0:=hz
      have hp1:C≤P:=hp1
      have hp2:P<4:=hp2
      have hnp:n+P=4:=hnp
      rcases hp4 with rfl|rfl|rfl|rfl
      all_goals
       have hg:=Q3 (l:=M P) (c:=C) (by rw[hlen P hp2];omega)
       generalize hv:(M P).getD C 0=v at hg
       have hgx:(bx (M P))[0+((C:Nat):Int).toNat]?=some [u8 v]:=u7 hg
       refine z8 (q8 hT ?_)
       first
        |refine z4 ?_
         refine x6 ?_
         exact⟨_,q7 [0,1,2,3,4] [5,6,9,10] rfl,P,⟨hp1,hp2,fun e=>sPiv hM hC fun q h1 h2=>by
          by_cases e2:q=P
          ·rw[e2];exact e
          ·exact hz q h1 (by show q<P;have h2:q<P+1:=h2;omega)⟩,rfl⟩
        |refine⟨by decide,?_⟩
         refine⟨⟨by omega,by omega⟩,?_⟩
         refine w9 hgx ?_
         refine z4 (y4 (fun h=>?_) (fun h=>?_))
         ·have h:(((v.toNat:Nat):Int)==0)=true:=h
          rw[beq_iff_eq]at h
          have hv0:v=0:=UInt8.toNat_inj.mp (by show v.toNat=0;omega)
          refine z5 ?_
          refine z3 ?_
          refine q9 hT ?_
          exact⟨n - 1,by omega,_,q7 [0,1,2,3,4] [5,6,9,10] rfl,P+1,_,by omega,(show _=((P:Nat):Int)+1 from y8 _ (by omega) (by omega)),by omega,(by show P+1+1≤4;exact Nat.le_of_ble_eq_true rfl),fun j h1 h2=>by
           by_cases e2:j=P
           ·rw[e2,hv];exact hv0
           ·exact hz j h1 (by omega),rfl⟩
         ·have h:(((v.toNat:Nat):Int)==0)=false:=h
          have hne:v≠0:=fun e=>by rw[e]at h;exact absurd h (by decide)
          refine x6 ?_
          exact⟨_,q7 [0,1,2,3,4] [5,6,9,10] rfl,P,⟨hp1,hp2,by rw[hv];exact hne⟩,rfl⟩
     rintro _ ⟨p,⟨hp1,hp2,hpv⟩,rfl⟩
     obtain⟨M1,hM1e⟩:∃ M1,M1=swp M C p:=⟨_,rfl⟩
     have hM1:S C M1:=by rw[hM1e];exact sSwap hM hC hp1 hp2
     have hM1p:(M1 C).getD C 0≠0:=by rw[hM1e,x2b];exact hpv
     have hp4:p=0∨p=1∨p=2∨p=3:=by omega
     refine z7 ⟨⟨173,[(5,i64 4),(6,.msl 0 1 0 4),(9,i64 C),(10,i64 p),(11,.msl (1+C) 1 0 5)]⟩,[.cells z0 [.msl 1 1 0 5,.msl 2 1 0 5,.msl 3 1 0 5,.msl 4 1 0 5],.row z1 1 (bx (M 0)),.row z1 1 (bx (M 1)),.row z1 1 (bx (M 2)),.row z1 1 (bx (M 3))]⟩ True (q9 hT ?_) (fun _=>?_)
     ·refine⟨by omega,?_⟩
      exact⟨q7 [0,1,2,3,4] [5,6,9,10,11] rfl,trivial⟩
     refine y6 (fun st=>st=⟨⟨173,[(5,i64 4),(6,.msl 0 1 0 4),(9,i64 C),(10,i64 p),(11,.msl (1+C) 1 0 5)]⟩,[.cells z0 [.msl (sc C p 0) 1 0 5,.msl (sc C p 1) 1 0 5,.msl (sc C p 2) 1 0 5,.msl (sc C p 3) 1 0 5],.row z1 1 (bx (M 0)),.row z1 1 (bx (M 1)),.row z1 1 (bx (M 2)),.row z1 1 (bx (M 3))]⟩) ?_ ?_
     ·rcases hp4 with rfl|rfl|rfl|rfl
      all_goals
       refine q9 hT ?_
       refine⟨by omega,?_⟩
       refine⟨by omega,?_⟩
       exact⟨_,q7 [0,1,2,3,4] [5,6,9,10,11] rfl,rfl⟩
     rintro _ rfl
     refine y6 (fun st=>∃ N,N=M1∧st=⟨⟨173,[(5,i64 4),(6,.msl 0 1 0 4),(9,i64 C)]⟩,[.cells z0 [.msl 1 1 0 5,.msl 2 1 0 5,.msl 3 1 0 5,.msl 4 1 0 5],.row z1 1 (bx (N 0)),.row z1 1 (bx (N 1)),.row z1 1 (bx (N 2)),.row z1 1 (bx (N 3))]⟩) ?_ ?_
     ·let P:=p
      have hM1e:M1=swp M C P:=hM1e
      rcases hp4 with rfl|rfl|rfl|rfl
      all_goals
       refine q9 hT ?_
       refine⟨by omega,?_⟩
       exact⟨_,q7 [0,sw C P 0,sw C P 1,sw C P 2,sw C P 3] [5,6,9] rfl,swp M C P,hM1e.symm,rfl⟩
     rintro _ ⟨_,rfl,rfl⟩
     clear hM1e hpv hlen hM hp4 hp1 hp2
     refine q8 hT ?_
     refine z3 ?_
     refine y7 (fun n s=>∃ (k:Nat) (j:Int) (M:Z3),n+k=4∧j=k∧E C k M∧s=⟨⟨173,[(5,i64 4),(6,.msl 0 1 0 4),(9,i64 C),(12,i64 j)]⟩,[.cells z0 [.msl 1 1 0 5,.msl 2 1 0 5,.msl 3 1 0 5,.msl 4 1 0 5],.row z1 1 (bx (M 0)),.row z1 1 (bx (M 1)),.row z1 1 (bx (M 2)),.row z1 1 (bx (M 3))]⟩) 4 ⟨⟨173,_⟩,_⟩ (q7 [0,1,2,3,4] [5,6,9,12] rfl) ⟨0,0,_,rfl,rfl,sFirst hM1 hM1p,rfl⟩ ?_
     clear hM1 hM1p
     rintro n2 s ⟨k,j,M,hnk,hj,hE,rfl⟩
     refine z8 (q8 hT ?_)
     refine z4 (y4 (fun h=>?_) (fun h=>?_))
     ·have h:=k0q (show decide (j<((4:Nat):Int))=true from h)
      refine z5 ?_
      have hk4:k=0∨k=1∨k=2∨k=3:=by omega
      subst hj
      refine y6 (fun st=>∃ M',E C (k+1) M'∧st=⟨⟨173,[(5,i64 4),(6,.msl 0 1 0 4),(9,i64 C),(12,i64 k)]⟩,[.cells z0 [.msl 1 1 0 5,.msl 2 1 0 5,.msl 3 1 0 5,.msl 4 1 0 5],.row z1 1 (bx (M' 0)),.row z1 1 (bx (M' 1)),.row z1 1 (bx (M' 2)),.row z1 1 (bx (M' 3))]⟩) (z3 ?_) ?_
      ·let K:=k
       have hkr:K<4:=by show k<4;omega
       have hE:E C K M:=hE
       rcases hk4 with rfl|rfl|rfl|rfl
       all_goals
        have l1:=sELen hE
        have hvc:=sEPiv hE
        have hkl:=l1 K hkr
        have hcl:=l1 C hC
        have hgc:=Q3 (l:=M C) (c:=C) (by rw[hcl];omega)
        have hgk:=Q3 (l:=M K) (c:=C) (by rw[hkl];omega)
        first
         |have hEl:=sSkip hE
          refine z8 (q8 hT ?_)
          refine z4 ?_
          refine x6 ?_
          exact⟨_,q7 [0,1,2,3,4] [5,6,9,12] rfl,M,hEl,rfl⟩
         |have hEl:=sEl hE hC hkr (Nat.ne_of_beq_eq_false rfl)
          generalize (M C).getD C 0=v at hgc hvc hEl
          generalize (M K).getD C 0=x at hgk hEl
          have hEl:=hEl _ rfl
          have w:=wD x v hvc
          generalize Gf.mul x (Gf.inv v)=q at hEl w
          have hcx:(bx (M C))[0+((C:Nat):Int).toNat]?=some [u8 v]:=u7 hgc
          have hkx:(bx (M K))[0+((C:Nat):Int).toNat]?=some [u8 x]:=u7 hgk
          refine z8 (q8 hT ?_)
          refine⟨by omega,?_⟩
          refine⟨⟨by omega,by omega⟩,?_⟩
          refine w9 hcx ?_
          refine z4 (y4 (fun h=>?_) (fun h=>?_))
          ·have h:(((v.toNat:Nat):Int)==0)=true:=h
           rw[beq_iff_eq]at h
           exact absurd (UInt8.toNat_inj.mp (by show v.toNat=0;omega)) hvc
          refine z5 ?_
          refine z7 ⟨⟨173,[(5,i64 4),(6,.msl 0 1 0 4),(9,i64 C),(12,i64 K),(13,.p (u8 q))]⟩,[.cells z0 [.msl 1 1 0 5,.msl 2 1 0 5,.msl 3 1 0 5,.msl 4 1 0 5],.row z1 1 (bx (M 0)),.row z1 1 (bx (M 1)),.row z1 1 (bx (M 2)),.row z1 1 (bx (M 3))]⟩ True ?_ (fun _=>?_)
          ·refine v7 [] [] hT y5 (by rfl) ?_
           refine⟨by omega,?_⟩
           refine⟨⟨by omega,by omega⟩,?_⟩
           refine w9 hkx ?_
           refine⟨by omega,?_⟩
           refine⟨⟨by omega,by omega⟩,?_⟩
           refine w9 hcx ?_
           refine⟨_,w7 w _ rfl rfl,?_⟩
           exact⟨q7 [0,1,2,3,4] [5,6,9,12,13] rfl,trivial⟩
          clear w hcx hkx hgc hgk hvc
          have hkc:(M K).length=(M C).length:=by rw[hkl,hcl]
          have hRl:=q1t q hkc
          have hRg:=fun i h1 h2=>y3q (to:=M K) (row:=M C) q (i:=i) h1 h2
          generalize J4 (M K) (M C) q=R at hRl hRg hEl
          refine q8 hT ?_
          refine z3 ?_
          refine y7 (fun n s=>∃ (i:Nat) (ji:Int) (X:List (List PV)),n+i=5∧ji=i∧X=bx (q2c R (M K) i)∧s=⟨⟨173,[(5,i64 4),(6,.msl 0 1 0 4),(9,i64 C),(12,i64 K),(13,.p (u8 q)),(15,i64 ji)]⟩,[.cells z0 [.msl 1 1 0 5,.msl 2 1 0 5,.msl 3 1 0 5,.msl 4 1 0 5],.row z1 1 (q9s M K X 0),.row z1 1 (q9s M K X 1),.row z1 1 (q9s M K X 2),.row z1 1 (q9s M K X 3)]⟩) 5 ⟨⟨173,_⟩,_⟩ (q7 [0,1,2,3,4] [5,6,9,12,13,15] rfl) ⟨0,0,bx (M K),rfl,rfl,by rw[x6s],rfl⟩ ?_
          rintro n3 s ⟨i,ji,X,hni,hji,hX,rfl⟩
          refine z8 (q8 hT ?_)
          refine z4 (y4 (fun h=>?_) (fun h=>?_))
          ·have h:=k0q (show decide (ji≤((4:Nat):Int))=true from h)
           have h1:i<(M K).length:=by omega
           have h2:i<(M C).length:=by omega
           refine z5 ?_
           have hmg:=q7p hRl h1
           have hcg:=k0x h2
           have hv:=hRg i h1 h2
           have hset:=q7q hRl h1 hv
           have w1:=wM q (M C)[i]
           have w2:=wA (M K)[i] (Gf.mul q (M C)[i])
           generalize (M K)[i]=u at hmg hset w2 hv
           generalize (M C)[i]=b at hcg hset w1 w2 hv
           generalize Gf.mul q b=qb at hset w1 w2 hv
           generalize u ^^^ qb=uq at hset w2 hv
           have hjk:0+ji.toNat=i:=by omega
           have hux:X[0+ji.toNat]?=some [u8 u]:=by rw[hjk,hX];exact u7 hmg
           have hbx:(bx (M C))[0+ji.toNat]?=some [u8 b]:=by rw[hjk];exact u7 hcg
           have hset2:X.set (0+ji.toNat) [u8 uq]=bx (q2c R (M K) (i+1)):=by rw[hjk,hX];exact hset
           refine y6 (fun st=>∃ X,X=bx (q2c R (M K) (i+1))∧st=⟨⟨173,[(5,i64 4),(6,.msl 0 1 0 4),(9,i64 C),(12,i64 K),(13,.p (u8 q)),(15,i64 ji)]⟩,[.cells z0 [.msl 1 1 0 5,.msl 2 1 0 5,.msl 3 1 0 5,.msl 4 1 0 5],.row z1 1 (q9s M K X 0),.row z1 1 (q9s M K X 1),.row z1 1 (q9s M K X 2),.row z1 1 (q9s M K X 3)]⟩) (z3 (q8 hT ?_)) ?_
           ·refine⟨by omega,?_⟩
            refine⟨⟨by omega,by omega⟩,?_⟩
            refine w9 hbx ?_
            refine x7 (w7 w1 _ rfl rfl) ?_
            refine v7 [15] [] hT y5 (by rfl) ?_
            refine⟨by omega,?_⟩
            refine⟨by omega,?_⟩
            refine⟨⟨by omega,by omega⟩,?_⟩
            refine w9 hux ?_
            refine⟨_,w7 w2 _ rfl rfl,?_⟩
            refine⟨⟨by omega,by omega⟩,?_⟩
            refine w9 hux ?_
            repeat first|refine⟨rfl,?_⟩|refine⟨⟨by omega,rfl⟩,?_⟩|refine⟨⟨_,w7 w2 _ rfl rfl,rfl⟩,?_⟩|refine⟨⟨⟨by omega,by omega⟩,rfl⟩,?_⟩|refine⟨w9 hux rfl,?_⟩
            exact⟨_,q7 [0,1,2,3,4] [5,6,9,12,13,15] rfl,_,hset2,rfl⟩
           ·rintro _ ⟨X,hX,rfl⟩
            refine q9 hT ?_
            exact⟨n3 - 1,by omega,_,q7 [0,1,2,3,4] [5,6,9,12,13,15] rfl,i+1,IntKind.i64.wrap (ji+1),X,by omega,by rw[y8 _ (by omega) (by omega)];omega,hX,rfl⟩
          ·have h:=k0z (show decide (ji≤((4:Nat):Int))=false from h)
           rw[show i=(M K).length by omega,q7n hRl]at hX
           rw[hX]
           refine x6 ?_
           exact⟨_,q7 [0,1,2,3,4] [5,6,9,12] rfl,U5 M K R,hEl,rfl⟩
      ·rintro _ ⟨M',hM',rfl⟩
       refine q9 hT ?_
       exact⟨n2 - 1,by omega,_,q7 [0,1,2,3,4] [5,6,9,12] rfl,k+1,IntKind.i64.wrap ((k:Int)+1),M',by omega,by rw[y8 _ (by omega) (by omega)];rfl,hM',rfl⟩
     ·have h:=k0z (show decide (j<((4:Nat):Int))=false from h)
      rw[show k=4 by omega]at hE
      refine x6 ?_
      exact⟨_,q7 [0,1,2,3,4] [5,6,9] rfl,M,sNext hE,rfl⟩
   ·rintro _ ⟨M,hM,rfl⟩
    refine q9 hT ?_
    exact⟨n - 1,by omega,_,q7 [0,1,2,3,4] [5,6,9] rfl,c+1,IntKind.i64.wrap ((c:Int)+1),M,by omega,by rw[y8 _ (by omega) (by omega)];rfl,hM,rfl⟩
  ·have h:=k0z (show decide (jc<((4:Nat):Int))=false from h)
   rw[show c=4 by omega]at hM
   refine x6 ?_
   exact⟨_,q7 [0,1,2,3,4] [5,6] rfl,M,hM,rfl⟩
 rintro _ ⟨M,hM,rfl⟩
 have hlen:=sLen hM
 have he:=hend M hM
 clear h0 hend sLen sSwap sPiv sFirst sSkip sEl sELen sEPiv sNext hM
 refine z7 ⟨⟨173,[(5,i64 4),(6,.msl 0 1 0 4),(17,.msl 5 1 0 0)]⟩,[.cells z0 [.msl 1 1 0 5,.msl 2 1 0 5,.msl 3 1 0 5,.msl 4 1 0 5],.row z1 1 (bx (M 0)),.row z1 1 (bx (M 1)),.row z1 1 (bx (M 2)),.row z1 1 (bx (M 3)),.row z1 1 (bx [])]⟩ True (q9 hT ?_) (fun _=>?_)
 ·exact⟨Wk.trans (Q2 z1 1) (Wk.trans (V6 17 5 1 0 rfl) (q7 [0,1,2,3,4,5] [5,6,17] rfl)),trivial⟩
 refine y6 (fun st=>∃ X,X=Z∧st=⟨⟨173,[(17,.msl 0 1 0 (bx X).length)]⟩,[.row z1 1 (bx X)]⟩) (q8 hT ?_) ?_
 ·refine z3 ?_
  refine y7 (fun n s=>∃ (i:Nat) (ji:Int) (X:z6),n+i=4∧ji=i∧X=Z.take i∧s=⟨⟨173,[(5,i64 4),(6,.msl 0 1 0 4),(17,.msl 5 1 0 (bx X).length),(18,i64 ji)]⟩,[.cells z0 [.msl 1 1 0 5,.msl 2 1 0 5,.msl 3 1 0 5,.msl 4 1 0 5],.row z1 1 (bx (M 0)),.row z1 1 (bx (M 1)),.row z1 1 (bx (M 2)),.row z1 1 (bx (M 3)),.row z1 1 (bx X)]⟩) 4 ⟨⟨173,_⟩,_⟩ (q7 [0,1,2,3,4,5] [5,6,17,18] rfl) ⟨0,0,[],rfl,rfl,rfl,rfl⟩ ?_
  rintro n s ⟨i,ji,X,hni,hji,hX,rfl⟩
  refine z8 (q8 hT ?_)
  refine z4 (y4 (fun h=>?_) (fun h=>?_))
  ·have h:=k0q (show decide (ji<((4:Nat):Int))=true from h)
   refine z5 ?_
   have hi4:i=0∨i=1∨i=2∨i=3:=by omega
   subst hji
   have hXl:(bx X).length≤4:=by rw[w6,hX,k2u];omega
   refine y6 (fun st=>∃ X',X'=Z.take (i+1)∧st=⟨⟨173,[(5,i64 4),(6,.msl 0 1 0 4),(17,.msl 5 1 0 (bx X').length),(18,i64 i)]⟩,[.cells z0 [.msl 1 1 0 5,.msl 2 1 0 5,.msl 3 1 0 5,.msl 4 1 0 5],.row z1 1 (bx (M 0)),.row z1 1 (bx (M 1)),.row z1 1 (bx (M 2)),.row z1 1 (bx (M 3)),.row z1 1 (bx X')]⟩) (z3 (z8 ?_)) ?_
   ·let I:=i
    have hI:I<4:=by show i<4;omega
    have hX:X=Z.take I:=hX
    rcases hi4 with rfl|rfl|rfl|rfl
    all_goals
     obtain⟨hne,hq⟩:=he I hI
     have hzi:=hzg I hI
     rw[← hq]at hzi
     have hg1:=Q3 (l:=M I) (c:=4) (by rw[hlen I hI];decide)
     have hg2:=Q3 (l:=M I) (c:=I) (by rw[hlen I hI];omega)
     clear hq
     generalize (M I).getD 4 0=x at hg1 hzi
     generalize (M I).getD I 0=v at hg2 hzi hne
     have w:=wD x v hne
     generalize Gf.mul x (Gf.inv v)=q at hzi w
     have hx1:(bx (M I))[0+((4:Nat):Int).toNat]?=some [u8 x]:=u7 hg1
     have hx2:(bx (M I))[0+((I:Nat):Int).toNat]?=some [u8 v]:=u7 hg2
     refine v7 [] [] hT y5 (by rfl) ?_
     refine⟨by omega,?_⟩
     refine⟨⟨by decide,by decide⟩,?_⟩
     refine w9 hx1 ?_
     refine⟨by omega,?_⟩
     refine⟨⟨by omega,by omega⟩,?_⟩
     refine w9 hx2 ?_
     refine⟨_,w7 w _ rfl rfl,?_⟩
     refine q9 hT ?_
     refine⟨rfl,⟨by show ((bx X).length+1)*1≤_;omega,by show (bx X).length+1≤_;omega⟩,?_⟩
     refine⟨_,q7 [0,1,2,3,4,7] [5,6,17,18] rfl,X++[q],?_,?_⟩
     ·show X++[q]=Z.take (I+1)
      rw[k2t,hzi,hX];rfl
     ·rw[Y9];rfl
   ·rintro _ ⟨X,hX,rfl⟩
    refine q9 hT ?_
    exact⟨n - 1,by omega,_,q7 [0,1,2,3,4,5] [5,6,17,18] rfl,i+1,IntKind.i64.wrap ((i:Int)+1),X,by omega,by rw[y8 _ (by omega) (by omega)];rfl,hX,rfl⟩
  ·have h:=k0z (show decide (ji<((4:Nat):Int))=false from h)
   rw[k2z (by omega)]at hX
   refine x6 ?_
   exact⟨_,q7 [5] [17] rfl,X,hX,rfl⟩
 rintro _ ⟨X,rfl,rfl⟩
 refine u6 (Z6 17 0 _ rfl rfl rfl rfl) ?_
 refine q8 hT ?_
 refine y9 ?_
 exact z9 [] ⟨_,rfl,rfl,rfl⟩ rfl
end Go.Proofs.YtinfbclgkghgaaaGreat.AL
/- The document's layer 3 (rs): Decode (printed by gendec.py). -/
namespace Go.Proofs.YtinfbclgkghgaaaGreat.AL
open Go Go.Proofs
theorem x0d (S:List z6)(m c:Nat)(m1:1≤m)(m3:m≤3)(c1:1≤c)(c2:c≤4096)(hl:S.length=4+m)(hS:∀ s∈S,s.length=0∨s.length=c) :
 AF Tryz.prog q1z [.p (.sl 1 (z2 S)),i64 4] [] (v8 (.tup [.p (.sl 1 (z2 (J9 S 4 m c).1)),i64 (J9 S 4 m c).2]) []):=by
 refine AF.mono (R:=fun r H'=>∃ z,z=J9 S 4 m c∧r=.tup [.p (.sl 1 (z2 z.1)),i64 z.2]∧H'=[]) ?_ (by rintro r H' ⟨z,rfl,rfl,rfl⟩;exact⟨rfl,rfl⟩)
 have eD:J9 S 4 m c=match decide ((Q6 S 4 (4+m)).length<4) with
  |true=>([],9)
  |false=>(W9 S 4 m c++q1g (W9 S 4 m c) m c,0):=rfl
 have hcl:=u5 S
 have hm:IntKind.i64.wrap ((((z2 S).length:Nat):Int) - ((4:Nat):Int))=(m:Int):=by rw[y8 _ (by omega) (by omega)];omega
 have wr:=q7u 4 m (by decide) m1 (by omega)
 have hrl:=q3s 4 m
 have hRB:byB S 4 m=X3 (Y5 4 m) (Q6 S 4 (4+m)):=rfl
 have hSO:ofB S 4 m=X3 S (Q6 S 4 (4+m)):=rfl
 have hGs:∀ i,Q6 S 4 (i+1)=match decide ((Q6 S 4 i).length<4)&&decide (0<(S.getD i []).length) with
  |true=>Q6 S 4 i++[i]
  |false=>Q6 S 4 i:=fun i=>rfl
 have hgl:=fun i=>q1u S 4 i
 have hG0:Q6 S 4 0=[]:=rfl
 have hD:=z8s S m c m1 m3 hl hS (r:=4)
 have hslv:(Q6 S 4 (4+m)).length=4→∀ Y:z6,Y.length=4→AF Tryz.prog J3 [.p (.sl 1 (z2 (byB S 4 m))),bA Y] [] (v8 (bA (q4r 4 (byB S 4 m) Y)) []):=fun hg Y hY=>by
  have hbl:=q6s hg
  have hbr:=z3z (S:=S) (k:=4) (m:=m)
  have hbk:=q6x (by omega) hg
  generalize byB S 4 m=B at hbl hbr hbk ⊢
  rw[w3n hbl]at hbr hbk ⊢
  exact x0c (B.getD 0 []) (B.getD 1 []) (B.getD 2 []) (B.getD 3 []) Y hbr hbk hY
 rw[← hm]at wr
 generalize J9 S 4 m c=Z at eD
 generalize byB S 4 m=BY at hRB hslv hD
 generalize ofB S 4 m=OF at hSO hD
 generalize W9 S 4 m c=D at eD hD
 have hRc:=u5 (Y5 4 m)
 have hRg:=fun(i:Nat) (hi:i<4+m)=>Q0 (q9t (l:=Y5 4 m) (i:=i) (by rw[hrl];exact hi))
 generalize Y5 4 m=RB at wr hRg hRB hrl hRc
 generalize hRR:z2 RB=R at wr hRg hRc
 generalize Q6 S 4=good at eD hRB hSO hGs hgl hG0 hD hslv
 refine v6 hT q4f rfl rfl q4g rfl ?_
 refine q8 hT ?_
 refine z7 ⟨⟨136,[(0,.p (.sl 1 (z2 S))),(1,i64 4),(6,.p (.sl 1 R)),(7,i64 0)]⟩,[]⟩ True (q9 hT ?_) (fun _=>?_)
 ·refine x7 (w7 wr _ rfl rfl) ?_
  exact⟨q7 [] [0,1,6,7] rfl,trivial⟩
 refine z8 (q8 hT ?_)
 refine z4 ?_
 refine z5 ?_
 refine q8 hT ?_
 refine q8 hT ?_
 refine q8 hT ?_
 refine z7 ⟨⟨136,[(0,.p (.sl 1 (z2 S))),(1,i64 4),(6,.p (.sl 1 R)),(8,i64 0),(9,.msl 0 1 0 (z2 []).length),(10,.msl 1 1 0 (z2 []).length),(11,i64 0)]⟩,[.row z0 1 (z2 []),.row z0 1 (z2 [])]⟩ True (q9 hT ?_) (fun _=>?_)
 ·exact⟨Wk.trans (Q2 z0 1) (Wk.trans (Q2 z0 1) (Wk.trans (V6 9 0 1 0 rfl) (Wk.trans (V6 10 1 1 0 rfl) (q7 [0,1] [0,1,6,8,9,10,11] rfl)))),trivial⟩
 refine y6 (fun st=>∃ (q:Nat) (lf lg:Int) (X Y:List z6),lf=q∧(good (4+m)).length=min q 4∧((q=0∧lg=0)∨(0<q∧lg=c))∧X=BY∧Y=OF∧st=⟨⟨136,[(0,.p (.sl 1 (z2 S))),(1,i64 4),(8,i64 lg),(9,.msl 0 1 0 (z2 X).length),(10,.msl 1 1 0 (z2 Y).length),(11,i64 lf)]⟩,[.row z0 1 (z2 X),.row z0 1 (z2 Y)]⟩) (q8 hT ?_) ?_
 ·refine z3 ?_
  refine y7 (fun n st=>∃ (i q:Nat) (ji lf lg:Int) (X Y:List z6),n+i=4+m∧ji=i∧lf=q∧q≤i∧(good i).length=min q 4∧((q=0∧lg=0)∨(0<q∧lg=c))∧X=X3 RB (good i)∧Y=X3 S (good i)∧st=⟨⟨136,[(0,.p (.sl 1 (z2 S))),(1,i64 4),(6,.p (.sl 1 R)),(8,i64 lg),(9,.msl 0 1 0 (z2 X).length),(10,.msl 1 1 0 (z2 Y).length),(11,i64 lf),(12,i64 ji)]⟩,[.row z0 1 (z2 X),.row z0 1 (z2 Y)]⟩) (4+m) ⟨⟨136,_⟩,_⟩ (q7 [0,1] [0,1,6,8,9,10,11,12] rfl) ⟨0,0,0,0,0,[],[],by omega,rfl,rfl,k1w _,by rw[hG0];rfl,.inl ⟨rfl,rfl⟩,by rw[hG0];rfl,by rw[hG0];rfl,rfl⟩ ?_
  rintro n st ⟨i,q,ji,lf,lg,X,Y,hni,hji,hlf,hqi,hq,hlg,hX,hY,rfl⟩
  refine z8 (q8 hT ?_)
  refine z4 (y4 (fun h=>?_) (fun h=>?_))
  ·have h:=k0q (show decide (ji<(((z2 S).length:Nat):Int))=true from h)
   have hi:i<S.length:=by omega
   refine z5 ?_
   have hs:=k0x hi
   have hsl:=hS _ (k1x hi)
   have hGi:=hGs i
   rw[getD_some hs]at hGi
   have hpS:X3 S (good i++[i])=X3 S (good i)++[S[i]]:=q3v (getD_some hs)
   generalize S[i]=s at hs hsl hGi hpS
   have hpR:X3 RB (good i++[i])=X3 RB (good i)++[RB.getD i []]:=q3v rfl
   have hRp:=hRg i (by omega)
   generalize RB.getD i []=ra at hRp hpR
   rw[show i=ji.toNat by omega]at hRp
   have hsp:(z2 S)[ji.toNat]?=some [bP s]:=by rw[hji,k0v];exact Q0 hs
   have hbs:=w6 s
   have hGl:=hgl i
   have hXl:(z2 X).length=(good i).length:=by rw[u5,hX,X3,k1y]
   have hYl:(z2 Y).length=(good i).length:=by rw[u5,hY,X3,k1y]
   rw[← hX]at hpR
   rw[← hY]at hpS
   generalize good i=G at *
   obtain⟨G1,hG1⟩:∃ G1,G1=good (i+1):=⟨_,rfl⟩
   rw[← hG1]at hGi
   refine y6 (fun st=>∃ (q':Nat) (lf' lg':Int) (X' Y':List z6),lf'=q'∧q'≤i+1∧G1.length=min q' 4∧((q'=0∧lg'=0)∨(0<q'∧lg'=c))∧X'=X3 RB G1∧Y'=X3 S G1∧st=⟨⟨136,[(0,.p (.sl 1 (z2 S))),(1,i64 4),(6,.p (.sl 1 R)),(8,i64 lg'),(9,.msl 0 1 0 (z2 X').length),(10,.msl 1 1 0 (z2 Y').length),(11,i64 lf'),(12,i64 ji)]⟩,[.row z0 1 (z2 X'),.row z0 1 (z2 Y')]⟩) (z3 (q8 hT ?_)) ?_
   ·refine⟨by omega,w9 hsp ?_⟩
    refine z8 (q8 hT ?_)
    refine z4 (y4 (fun h=>?_) (fun h=>?_))
    ·have h:((((bx s).length:Nat):Int)==0)=true:=h
     rw[beq_iff_eq]at h
     rw[k1t (show ¬ 0<s.length by omega),Bool.and_false]at hGi
     have hGi:G1=G:=hGi
     refine x6 ?_
     exact⟨_,q7 [0,1] [0,1,6,8,9,10,11,12] rfl,q,lf,lg,X,Y,hlf,by omega,by rw[hGi];exact hq,hlg,by rw[hGi];exact hX,by rw[hGi];exact hY,rfl⟩
    have h:((((bx s).length:Nat):Int)==0)=false:=h
    rw[beq_eq_false_iff_ne]at h
    have hsc:s.length=c:=by omega
    rw[k1u (show 0<s.length by omega),Bool.and_true]at hGi
    refine z5 ?_
    refine z7 ⟨⟨136,[(0,.p (.sl 1 (z2 S))),(1,i64 4),(6,.p (.sl 1 R)),(8,i64 lg),(9,.msl 0 1 0 (z2 X).length),(10,.msl 1 1 0 (z2 Y).length),(11,i64 lf),(12,i64 ji),(13,i64 c)]⟩,[.row z0 1 (z2 X),.row z0 1 (z2 Y)]⟩ True (q8 hT ?_) (fun _=>?_)
    ·rw[show (((bx s).length:Nat):Int)=(c:Int) by omega]
     refine y4 (fun h=>?_) (fun h=>?_)
     ·have h:=k0q (show decide ((c:Int) > 4096)=true from h)
      omega
     refine y4 (fun h=>?_) (fun h=>?_)
     ·have h:=k0q (show decide (lg > 0)=true from h)
      have hgc:lg=c:=by omega
      rw[hgc]
      refine z4 (y4 (fun h=>?_) (fun h=>?_))
      ·have h:((c:Int) != (c:Int))=true:=h
       rw[bne_self_eq_false]at h;cases h
      exact z5 ⟨q7 [0,1] [0,1,6,8,9,10,11,12,13] rfl,trivial⟩
     ·refine z4 ?_
      exact z5 ⟨q7 [0,1] [0,1,6,8,9,10,11,12,13] rfl,trivial⟩
    refine q8 hT ?_
    refine y6 (fun st=>∃ lf':Int,lf'=((q+1:Nat):Int)∧st=⟨⟨136,[(0,.p (.sl 1 (z2 S))),(1,i64 4),(6,.p (.sl 1 R)),(8,i64 c),(9,.msl 0 1 0 (z2 X).length),(10,.msl 1 1 0 (z2 Y).length),(11,i64 lf'),(12,i64 ji)]⟩,[.row z0 1 (z2 X),.row z0 1 (z2 Y)]⟩) (q9 hT ?_) ?_
    ·exact⟨_,q7 [0,1] [0,1,6,8,9,10,11,12] rfl,IntKind.i64.wrap (lf+1),by rw[y8 _ (by omega) (by omega)];omega,rfl⟩
    rintro _ ⟨lf',hlf',rfl⟩
    refine q8 hT ?_
    refine z4 (y4 (fun h=>?_) (fun h=>?_))
    ·have h:=k0q (show decide ((((z2 X).length:Nat):Int)<((4:Nat):Int))=true from h)
     rw[k1u (show G.length<4 by omega)]at hGi
     have hGi:G1=G++[i]:=hGi
     refine q8 hT ?_
     refine⟨by omega,w9 hRp ?_⟩
     refine⟨rfl,⟨by show ((z2 X).length+1)*24≤_;omega,by show (z2 X).length+1≤_;omega⟩,?_⟩
     refine q9 hT ?_
     refine⟨by omega,w9 hsp ?_⟩
     refine⟨rfl,⟨by show ((z2 Y).length+1)*24≤_;omega,by show (z2 Y).length+1≤_;omega⟩,?_⟩
     refine⟨_,q7 [3,5] [0,1,6,8,9,10,11,12] rfl,q+1,lf',c,X++[ra],Y++[s],hlf',by omega,by rw[hGi,k1z,List.length_singleton];omega,.inr ⟨by omega,rfl⟩,by rw[hGi];exact hpR.symm,by rw[hGi];exact hpS.symm,?_⟩
     rw[Y1,Y1];rfl
    ·have h:=k0z (show decide ((((z2 X).length:Nat):Int)<((4:Nat):Int))=false from h)
     rw[k1t (show ¬ G.length<4 by omega)]at hGi
     have hGi:G1=G:=hGi
     exact z5 ⟨_,q7 [0,1] [0,1,6,8,9,10,11,12] rfl,q+1,lf',c,X,Y,hlf',by omega,by rw[hGi];omega,.inr ⟨by omega,rfl⟩,by rw[hGi];exact hX,by rw[hGi];exact hY,rfl⟩
   ·rintro _ ⟨q',lf',lg',X',Y',g1,g2,g3,g4,g5,g6,rfl⟩
    refine q9 hT ?_
    exact⟨n - 1,by omega,_,q7 [0,1] [0,1,6,8,9,10,11,12] rfl,i+1,q',IntKind.i64.wrap (ji+1),lf',lg',X',Y',by omega,by rw[y8 _ (by omega) (by omega)];omega,g1,g2,by rw[← hG1];exact g3,g4,by rw[← hG1];exact g5,by rw[← hG1];exact g6,rfl⟩
  ·have h:=k0z (show decide (ji<(((z2 S).length:Nat):Int))=false from h)
   rw[show i=4+m by omega]at hq hX hY
   refine x6 ?_
   exact⟨_,q7 [0,1] [0,1,8,9,10,11] rfl,q,lf,lg,X,Y,hlf,hq,hlg,hX.trans hRB.symm,hY.trans hSO.symm,rfl⟩
 rintro _ ⟨q,lf,lg,X,Y,hlf,hq,hlg,hX,hY,rfl⟩
 rw[hX,hY]
 refine u6 (Z6 9 0 _ rfl rfl rfl rfl) ?_
 refine u6 (Z6 10 1 _ rfl rfl rfl rfl) ?_
 clear wr hRg hGs hgl hG0 hRB hSO hrl hRc hRR
 refine z7 ⟨⟨136,[(0,.p (.sl 1 (z2 S))),(1,i64 4),(8,i64 lg),(9,.p (.sl 1 (z2 BY))),(10,.p (.sl 1 (z2 OF)))]⟩,[]⟩ (¬ (good (4+m)).length<4) (q8 hT ?_) ?_
 ·refine z4 (y4 (fun h=>?_) (fun h=>?_))
  ·have h:=k0q (show decide (lf<((4:Nat):Int))=true from h)
   rw[k1u (show (good (4+m)).length<4 by omega)]at eD
   refine q8 hT ?_
   refine u6 (q1a 4 1 rfl) ?_
   refine y9 ?_
   exact z9 [] ⟨([],9),eD.symm,rfl,rfl⟩ rfl
  ·have h:=k0z (show decide (lf<((4:Nat):Int))=false from h)
   exact z5 ⟨q7 [] [0,1,8,9,10] rfl,by omega⟩
 intro hGk
 rw[k1t hGk]at eD
 have eD:Z=(D++q1g D m c,0):=eD
 have hGk:(good (4+m)).length=4:=by omega
 have hlgc:lg=(c:Int):=by omega
 rw[hlgc]
 have wslv:=hslv hGk
 obtain⟨hOl,hOr,hDl,hDr,hDg⟩:=hD hGk
 clear hslv hD hq hlg hlf hGk
 obtain⟨dB,hdB⟩:∃ dB:Z3,dB=fun i=>D.getD i []:=⟨_,rfl⟩
 have hdl:∀ i,i<4→(dB i).length=c:=fun i hi=>by
  rw[hdB]
  show (D.getD i []).length=c
  rw[k0w,k0x (by omega)]
  exact hDr _ (k1x _)
 have hDg:∀ i,i<4→∀ p,p<c→(dB i)[p]?=(q4r 4 BY (OF.map fun s:z6=>s.getD p 0))[i]?:=fun i hi p hp=>by rw[hdB];exact hDg i hi p hp
 have hDe:D=[dB 0,dB 1,dB 2,dB 3]:=by rw[hdB];exact w3n hDl
 clear hdB
 refine z7 ⟨⟨136,[(0,.p (.sl 1 (z2 S))),(1,i64 4),(8,i64 c),(9,.p (.sl 1 (z2 BY))),(10,.p (.sl 1 (z2 OF))),(14,.msl 0 1 0 4)]⟩,[.cells z0 [.msl 1 1 0 (bx ([])).length,.msl 2 1 0 (bx ([])).length,.msl 3 1 0 (bx ([])).length,.msl 4 1 0 (bx ([])).length],.row z1 1 (bx ([])),.row z1 1 (bx ([])),.row z1 1 (bx ([])),.row z1 1 (bx ([]))]⟩ True (q9 hT ?_) (fun _=>?_)
 ·refine⟨⟨rfl,(show (0:Int)≤((4:Nat):Int) by decide),(show ((4:Nat):Int)*24≤140737488355328 by decide),(show ((4:Nat):Int)≤140737488355328 by decide)⟩,?_⟩
  exact⟨Wk.trans (W6 0 [.raw (.slice none 0 0),.raw (.slice none 0 0),.raw (.slice none 0 0),.raw (.slice none 0 0)] rfl rfl (by decide)) (Wk.trans (Q2 z1 1) (Wk.trans (Q2 z1 1) (Wk.trans (Q2 z1 1) (Wk.trans (Q2 z1 1) ((Wk.trans (V0 0 [.msl 1 1 0 0,.msl 2 1 0 0,.msl 3 1 0 0,.msl 4 1 0 0] rfl ⟨.inr (.inr (.inl ⟨1,1,0,rfl,rfl⟩)),⟨.inr (.inr (.inl ⟨2,1,0,rfl,rfl⟩)),⟨.inr (.inr (.inl ⟨3,1,0,rfl,rfl⟩)),⟨.inr (.inr (.inl ⟨4,1,0,rfl,rfl⟩)),trivial⟩⟩⟩⟩) (q7 [0,1,2,3,4] [0,1,8,9,10,14] rfl))))))),trivial⟩
 refine y6 (fun st=>∃ M:Z3,(∀ i,i<4→M i=dB i)∧st=⟨⟨136,[(0,.p (.sl 1 (z2 S))),(1,i64 4),(14,.msl 0 1 0 4)]⟩,[.cells z0 [.msl 1 1 0 (bx (M 0)).length,.msl 2 1 0 (bx (M 1)).length,.msl 3 1 0 (bx (M 2)).length,.msl 4 1 0 (bx (M 3)).length],.row z1 1 (bx (M 0)),.row z1 1 (bx (M 1)),.row z1 1 (bx (M 2)),.row z1 1 (bx (M 3))]⟩) (q8 hT ?_) ?_
 ·refine z3 ?_
  refine y7 (fun n st=>∃ (p:Nat) (jp:Int) (M:Z3),n+p=c∧jp=p∧(∀ i,i<4→M i=(dB i).take p)∧st=⟨⟨136,[(0,.p (.sl 1 (z2 S))),(1,i64 4),(8,i64 c),(9,.p (.sl 1 (z2 BY))),(10,.p (.sl 1 (z2 OF))),(14,.msl 0 1 0 4),(15,i64 jp)]⟩,[.cells z0 [.msl 1 1 0 (bx (M 0)).length,.msl 2 1 0 (bx (M 1)).length,.msl 3 1 0 (bx (M 2)).length,.msl 4 1 0 (bx (M 3)).length],.row z1 1 (bx (M 0)),.row z1 1 (bx (M 1)),.row z1 1 (bx (M 2)),.row z1 1 (bx (M 3))]⟩) c ⟨⟨136,_⟩,_⟩ (q7 [0,1,2,3,4] [0,1,8,9,10,14,15] rfl) ⟨0,0,fun _=>[],by omega,rfl,fun i _=>rfl,rfl⟩ ?_
  rintro n st ⟨p,jp,M,hnp,hjp,hM,rfl⟩
  refine z8 (q8 hT ?_)
  refine z4 (y4 (fun h=>?_) (fun h=>?_))
  ·have h:=k0q (show decide (jp<(c:Int))=true from h)
   have hp:p<c:=by omega
   refine z5 ?_
   have hpg:=fun i hi=>hDg i hi p hp
   have hcl:(OF.map fun s:z6=>s.getD p 0).length=4:=by rw[k1y];exact hOl
   have hcg:∀ (i:Nat) (s:z6),OF[i]?=some s→(OF.map fun s:z6=>s.getD p 0)[i]?=some (s.getD p 0):=fun i s h=>by rw[k1q,h];rfl
   generalize (OF.map fun s:z6=>s.getD p 0)=col at hpg hcl hcg
   have hsv:=wslv col hcl
   have hxl:=q5y 4 BY col
   generalize q4r 4 BY col=x at hsv hpg hxl
   have hxx:=w6 x
   refine y6 (fun st=>∃ M':Z3,(∀ i,i<4→M' i=(dB i).take (p+1))∧st=⟨⟨136,[(0,.p (.sl 1 (z2 S))),(1,i64 4),(8,i64 c),(9,.p (.sl 1 (z2 BY))),(10,.p (.sl 1 (z2 OF))),(14,.msl 0 1 0 4),(15,i64 jp)]⟩,[.cells z0 [.msl 1 1 0 (bx (M' 0)).length,.msl 2 1 0 (bx (M' 1)).length,.msl 3 1 0 (bx (M' 2)).length,.msl 4 1 0 (bx (M' 3)).length],.row z1 1 (bx (M' 0)),.row z1 1 (bx (M' 1)),.row z1 1 (bx (M' 2)),.row z1 1 (bx (M' 3))]⟩) (z3 ?_) ?_
   ·refine z7 ⟨⟨136,[(0,.p (.sl 1 (z2 S))),(1,i64 4),(8,i64 c),(9,.p (.sl 1 (z2 BY))),(10,.p (.sl 1 (z2 OF))),(14,.msl 0 1 0 4),(15,i64 jp),(16,.msl 5 1 0 0)]⟩,[.cells z0 [.msl 1 1 0 (bx (M 0)).length,.msl 2 1 0 (bx (M 1)).length,.msl 3 1 0 (bx (M 2)).length,.msl 4 1 0 (bx (M 3)).length],.row z1 1 (bx (M 0)),.row z1 1 (bx (M 1)),.row z1 1 (bx (M 2)),.row z1 1 (bx (M 3)),.row z1 1 (bx [])]⟩ True (q9 hT ?_) (fun _=>?_)
    ·exact⟨Wk.trans (Q2 z1 1) (Wk.trans (V6 16 5 1 0 rfl) (q7 [0,1,2,3,4,5] [0,1,8,9,10,14,15,16] rfl)),trivial⟩
    refine y6 (fun st=>∃ W,W=col∧st=⟨⟨136,[(0,.p (.sl 1 (z2 S))),(1,i64 4),(8,i64 c),(9,.p (.sl 1 (z2 BY))),(10,.p (.sl 1 (z2 OF))),(14,.msl 0 1 0 4),(15,i64 jp),(16,.msl 5 1 0 (bx W).length)]⟩,[.cells z0 [.msl 1 1 0 (bx (M 0)).length,.msl 2 1 0 (bx (M 1)).length,.msl 3 1 0 (bx (M 2)).length,.msl 4 1 0 (bx (M 3)).length],.row z1 1 (bx (M 0)),.row z1 1 (bx (M 1)),.row z1 1 (bx (M 2)),.row z1 1 (bx (M 3)),.row z1 1 (bx W)]⟩) (q8 hT ?_) ?_
    ·refine z3 ?_
     refine y7 (fun n st=>∃ (i:Nat) (ji:Int) (W:z6),n+i=4∧ji=i∧W=col.take i∧st=⟨⟨136,[(0,.p (.sl 1 (z2 S))),(1,i64 4),(8,i64 c),(9,.p (.sl 1 (z2 BY))),(10,.p (.sl 1 (z2 OF))),(14,.msl 0 1 0 4),(15,i64 jp),(16,.msl 5 1 0 (bx W).length),(17,i64 ji)]⟩,[.cells z0 [.msl 1 1 0 (bx (M 0)).length,.msl 2 1 0 (bx (M 1)).length,.msl 3 1 0 (bx (M 2)).length,.msl 4 1 0 (bx (M 3)).length],.row z1 1 (bx (M 0)),.row z1 1 (bx (M 1)),.row z1 1 (bx (M 2)),.row z1 1 (bx (M 3)),.row z1 1 (bx W)]⟩) 4 ⟨⟨136,_⟩,_⟩ (q7 [0,1,2,3,4,5] [0,1,8,9,10,14,15,16,17] rfl) ⟨0,0,[],rfl,rfl,rfl,rfl⟩ ?_
     rintro n2 st ⟨i,ji,W,hni,hji,hW,rfl⟩
     refine z8 (q8 hT ?_)
     refine z4 (y4 (fun h=>?_) (fun h=>?_))
     ·have h:=k0q (show decide (ji<((4:Nat):Int))=true from h)
      have hi:i<OF.length:=by omega
      refine z5 ?_
      have hs:=k0x hi
      have hsl:=hOr _ (k1x hi)
      generalize OF[i]=s at hs hsl
      have hv:=hcg i s hs
      have hsp:(z2 OF)[ji.toNat]?=some [bP s]:=by rw[hji,k0v];exact Q0 hs
      have hvp:(bx s)[jp.toNat]?=some [u8 (s.getD p 0)]:=by rw[hjp,k0v];exact u7 (Q3 (by omega))
      generalize s.getD p 0=v at hv hvp
      have hWl:(bx W).length≤4:=by rw[w6,hW,k2u];omega
      have hW1:col.take (i+1)=W++[v]:=by rw[k2t,hv,hW];rfl
      refine y6 (fun st=>∃ W',W'=W++[v]∧st=⟨⟨136,[(0,.p (.sl 1 (z2 S))),(1,i64 4),(8,i64 c),(9,.p (.sl 1 (z2 BY))),(10,.p (.sl 1 (z2 OF))),(14,.msl 0 1 0 4),(15,i64 jp),(16,.msl 5 1 0 (bx W').length),(17,i64 ji)]⟩,[.cells z0 [.msl 1 1 0 (bx (M 0)).length,.msl 2 1 0 (bx (M 1)).length,.msl 3 1 0 (bx (M 2)).length,.msl 4 1 0 (bx (M 3)).length],.row z1 1 (bx (M 0)),.row z1 1 (bx (M 1)),.row z1 1 (bx (M 2)),.row z1 1 (bx (M 3)),.row z1 1 (bx W')]⟩) (z3 (q9 hT ?_)) ?_
      ·refine⟨by omega,w9 hsp ?_⟩
       refine⟨by omega,w9 hvp ?_⟩
       refine⟨rfl,⟨by show ((bx W).length+1)*1≤_;omega,by show (bx W).length+1≤_;omega⟩,?_⟩
       refine⟨_,q7 [0,1,2,3,4,7] [0,1,8,9,10,14,15,16,17] rfl,_,rfl,?_⟩
       rw[Y9];rfl
      ·rintro _ ⟨W',hW',rfl⟩
       refine q9 hT ?_
       exact⟨n2 - 1,by omega,_,q7 [0,1,2,3,4,5] [0,1,8,9,10,14,15,16,17] rfl,i+1,IntKind.i64.wrap (ji+1),W',by omega,by rw[y8 _ (by omega) (by omega)];omega,by rw[hW1];exact hW',rfl⟩
     ·have h:=k0z (show decide (ji<((4:Nat):Int))=false from h)
      rw[k2z (by omega)]at hW
      refine x6 ?_
      exact⟨_,q7 [0,1,2,3,4,5] [0,1,8,9,10,14,15,16] rfl,W,hW,rfl⟩
    rintro _ ⟨W,hW,rfl⟩
    rw[← hW]at hsv
    clear hcg hcl hW
    refine u6 (Z6 16 5 _ rfl rfl rfl rfl) ?_
    refine z7 ⟨⟨136,[(0,.p (.sl 1 (z2 S))),(1,i64 4),(8,i64 c),(9,.p (.sl 1 (z2 BY))),(10,.p (.sl 1 (z2 OF))),(14,.msl 0 1 0 4),(15,i64 jp),(18,bA x)]⟩,[.cells z0 [.msl 1 1 0 (bx (M 0)).length,.msl 2 1 0 (bx (M 1)).length,.msl 3 1 0 (bx (M 2)).length,.msl 4 1 0 (bx (M 3)).length],.row z1 1 (bx (M 0)),.row z1 1 (bx (M 1)),.row z1 1 (bx (M 2)),.row z1 1 (bx (M 3))]⟩ True (q9 hT ?_) (fun _=>?_)
    ·refine x7 (w7 hsv _ rfl rfl) ?_
     exact⟨q7 [0,1,2,3,4] [0,1,8,9,10,14,15,18] rfl,trivial⟩
    refine q8 hT ?_
    refine z3 ?_
    refine y7 (fun n st=>∃ (i:Nat) (ji:Int) (N:Z3),n+i=4∧ji=i∧(∀ j,j<4→N j=(dB j).take (if j<i then p+1 else p))∧st=⟨⟨136,[(0,.p (.sl 1 (z2 S))),(1,i64 4),(8,i64 c),(9,.p (.sl 1 (z2 BY))),(10,.p (.sl 1 (z2 OF))),(14,.msl 0 1 0 4),(15,i64 jp),(18,bA x),(19,i64 ji)]⟩,[.cells z0 [.msl 1 1 0 (bx (N 0)).length,.msl 2 1 0 (bx (N 1)).length,.msl 3 1 0 (bx (N 2)).length,.msl 4 1 0 (bx (N 3)).length],.row z1 1 (bx (N 0)),.row z1 1 (bx (N 1)),.row z1 1 (bx (N 2)),.row z1 1 (bx (N 3))]⟩) 4 ⟨⟨136,_⟩,_⟩ (q7 [0,1,2,3,4] [0,1,8,9,10,14,15,18,19] rfl) ⟨0,0,M,rfl,rfl,fun j hj=>by rw[if_neg (by omega)];exact hM j hj,rfl⟩ ?_
    rintro n2 st ⟨i,ji,N,hni,hji,hN,rfl⟩
    refine z8 (q8 hT ?_)
    refine z4 (y4 (fun h=>?_) (fun h=>?_))
    ·have h:=k0q (show decide (ji<((4:Nat):Int))=true from h)
     have hi4:i=0∨i=1∨i=2∨i=3:=by omega
     subst hji
     refine z5 ?_
     refine y6 (fun st=>∃ N':Z3,(∀ j,j<4→N' j=(dB j).take (if j<i+1 then p+1 else p))∧st=⟨⟨136,[(0,.p (.sl 1 (z2 S))),(1,i64 4),(8,i64 c),(9,.p (.sl 1 (z2 BY))),(10,.p (.sl 1 (z2 OF))),(14,.msl 0 1 0 4),(15,i64 jp),(18,bA x),(19,i64 i)]⟩,[.cells z0 [.msl 1 1 0 (bx (N' 0)).length,.msl 2 1 0 (bx (N' 1)).length,.msl 3 1 0 (bx (N' 2)).length,.msl 4 1 0 (bx (N' 3)).length],.row z1 1 (bx (N' 0)),.row z1 1 (bx (N' 1)),.row z1 1 (bx (N' 2)),.row z1 1 (bx (N' 3))]⟩) (z3 ?_) ?_
     ·let I:=i
      have hI:I<4:=by show i<4;omega
      have hN:∀ j,j<4→N j=(dB j).take (if j<I then p+1 else p):=hN
      rcases hi4 with rfl|rfl|rfl|rfl
      all_goals
       have hxi:=hpg I hI
       have hxg:=Q3 (l:=x) (c:=I) (by omega)
       rw[hxg]at hxi
       generalize x.getD I 0=v at hxg hxi
       have hxp:(bx x)[((I:Nat):Int).toNat]?=some [u8 v]:=u7 hxg
       have hNi:=hN I hI
       rw[if_neg (Nat.lt_irrefl I)]at hNi
       have hNl:(bx (N I)).length≤4096:=by rw[w6,hNi,k2u];omega
       have hN1:(dB I).take (p+1)=N I++[v]:=by rw[k2t,hxi,hNi];rfl
       refine v7 [11,13] [10] hT y5 (by rfl) ?_
       refine⟨by omega,?_⟩
       refine⟨by omega,w9 hxp ?_⟩
       refine⟨⟨rfl,rfl⟩,?_⟩
       refine⟨rfl,⟨by show ((bx (N I)).length+1)*1≤_;omega,by show (bx (N I)).length+1≤_;omega⟩,?_⟩
       refine⟨by omega,?_⟩
       repeat first|refine⟨rfl,?_⟩|refine⟨⟨by omega,rfl⟩,?_⟩|refine⟨⟨by omega,w9 hxp rfl⟩,?_⟩
       refine⟨_,q7 [0,pkI I 5 0,pkI I 5 1,pkI I 5 2,pkI I 5 3] [0,1,8,9,10,14,15,18,19] rfl,U5 N I (N I++[v]),fun j hj=>?_,?_⟩
       ·rw[q0h]
        show (if j=I then _ else _)=(dB j).take (if j<I+1 then p+1 else p)
        by_cases e:j=I
        ·rw[if_pos e,e,if_pos (Nat.lt_succ_self I)];exact hN1.symm
        ·rw[if_neg e,hN j hj]
         by_cases e2:j<I
         ·rw[if_pos e2,if_pos (by omega)]
         ·rw[if_neg e2,if_neg (by omega)]
       ·rw[show bx (U5 N I (N I++[v]) I)=bx (N I)++[[u8 v]] by rw[q0h,if_pos rfl];exact Y9 _ _];rfl
     ·rintro _ ⟨N',hN',rfl⟩
      refine q9 hT ?_
      exact⟨n2 - 1,by omega,_,q7 [0,1,2,3,4] [0,1,8,9,10,14,15,18,19] rfl,i+1,IntKind.i64.wrap ((i:Int)+1),N',by omega,by rw[y8 _ (by omega) (by omega)];rfl,hN',rfl⟩
    ·have h:=k0z (show decide (ji<((4:Nat):Int))=false from h)
     refine x6 ?_
     exact⟨_,q7 [0,1,2,3,4] [0,1,8,9,10,14,15] rfl,N,fun j hj=>by rw[hN j hj,if_pos (by omega)],rfl⟩
   ·rintro _ ⟨M',hM',rfl⟩
    refine q9 hT ?_
    exact⟨n - 1,by omega,_,q7 [0,1,2,3,4] [0,1,8,9,10,14,15] rfl,p+1,IntKind.i64.wrap (jp+1),M',by omega,by rw[y8 _ (by omega) (by omega)];omega,hM',rfl⟩
  ·have h:=k0z (show decide (jp<(c:Int))=false from h)
   refine x6 ?_
   exact⟨_,q7 [0,1,2,3,4] [0,1,14] rfl,M,fun i hi=>by rw[hM i hi,k2z (by rw[hdl i hi];omega)],rfl⟩
 rintro _ ⟨M,hM,rfl⟩
 rw[← hM 0 (by decide),← hM 1 (by decide),← hM 2 (by decide),← hM 3 (by decide)]at hDe
 have we:=q5h D m c (by omega) m1 (by omega) c1 c2 hDr
 have hEl:=q3b D m c
 clear hdl hDg hM wslv hDr hDl
 subst hDe
 generalize q1g [M 0,M 1,M 2,M 3] m c=E at we hEl eD
 rw[← hm]at we
 have we:AFm Tryz.prog 1 q1y [.msl 0 1 0 4,i64 (IntKind.i64.wrap ((((z2 S).length:Nat):Int) - ((4:Nat):Int)))] [.row z0 1 (z2 [M 0,M 1,M 2,M 3])] (v8 (.tup [.p (.sl 1 (z2 E)),i64 0]) [.row z0 1 (z2 [M 0,M 1,M 2,M 3])]):=we
 have hEc:=u5 E
 refine u6 (Wk.trans (X2 1 0 0 _ rfl rfl rfl rfl) (Wk.trans (X2 2 0 1 _ rfl rfl rfl rfl) (Wk.trans (X2 3 0 2 _ rfl rfl rfl rfl) (Wk.trans (X2 4 0 3 _ rfl rfl rfl rfl) (Wk.trans (U3 0 [bP (M 0),bP (M 1),bP (M 2),bP (M 3)] rfl rfl (show 4≤140737488355328 by decide)) (q7 [0] [0,1,14] rfl)))))) ?_
 refine z7 ⟨⟨136,[(14,.msl 0 1 0 4),(20,.p (.sl 1 (z2 E)))]⟩,[.row z0 1 (z2 [M 0,M 1,M 2,M 3])]⟩ True (q9 hT ?_) (fun _=>?_)
 ·refine x7 (Q7 [0] we rfl rfl rfl) ?_
  exact⟨q7 [0] [14,20] rfl,trivial⟩
 refine q8 hT ?_
 refine⟨rfl,⟨by show (4+(z2 E).length)*24≤_;omega,by show 4+(z2 E).length≤_;omega⟩,?_⟩
 refine u6 (Z6 4 1 _ rfl rfl rfl rfl) ?_
 refine y9 ?_
 exact z9 [] ⟨([M 0,M 1,M 2,M 3]++E,0),eD.symm,(by show AV.tup [.p (.sl 1 (z2 [M 0,M 1,M 2,M 3]++z2 E)),i64 0]=_;rw[← Y1]),rfl⟩ rfl
theorem x0e (S:List z6)(k m c:Nat)(k1:1≤k)(k4:k≤4)(m1:1≤m)(m3:m≤3)(c1:1≤c)(c2:c≤4096)(hl:S.length=k+m)(hS:∀ s∈S,s.length=0∨s.length=c) :
 AF Tryz.prog q1z [.p (.sl 1 (z2 S)),i64 k] [] (v8 (.tup [.p (.sl 1 (z2 (J9 S k m c).1)),i64 (J9 S k m c).2]) []):=by
 have hk:k=1∨k=2∨k=3∨k=4:=by omega
 rcases hk with rfl|rfl|rfl|rfl
 ·exact y9y S m c m1 m3 c1 c2 hl hS
 ·exact y9z S m c m1 m3 c1 c2 hl hS
 ·exact x0b S m c m1 m3 c1 c2 hl hS
 ·exact x0d S m c m1 m3 c1 c2 hl hS
theorem w3p (a b:Int):U8 [a,b]=(Y2 a&&Y2 b):=by
 unfold U8 Y2
 simp only[List.all_cons,List.all_nil,Bool.and_true]
theorem w7u {vol at_ no:Int}{l:List z6}:∀ s∈q0n vol at_ no l,s.length=0∨s.length=228:=fun s hs=>by
 unfold q0n at hs
 rw[List.mem_map]at hs
 obtain⟨i,_,rfl⟩:=hs
 exact z4b _ _ _ _ _
theorem w7v {l:List z6}{vol:Int}{g:GeoV}{area stripe no:Int}(hk4:g.k≤4)(hm3:g.m≤3):(X4 l vol g area stripe no).1.length≤7∧∀ s∈(X4 l vol g area stripe no).1,s.length≤228:=by
 unfold X4
 split
 ·exact⟨Nat.zero_le _,fun s hs=>by cases hs⟩
 ·rename_i h
  split
  ·exact⟨Nat.zero_le _,fun s hs=>by cases hs⟩
  ·simp only[Bool.or_eq_false_iff,Bool.not_eq_false',beq_iff_eq]at h
   obtain⟨⟨h1,_⟩,h3⟩:=h
   have hf:W4 g area stripe:=by
    by_cases hf:W4 g area stripe
    ·exact hf
    ·rw[q4p hf]at h1;exact absurd h1 (by decide)
   obtain⟨_,_,_,_,h5,h6,h7,h8⟩:=V1 (V3 hf.1)
   have hd:=u1b (r:=g.k.toNat) (q0n vol (X9 g area stripe).1 no l) g.m.toNat 228 (by rw[z4a];omega) w7u
   refine⟨Nat.le_trans hd.1 (by omega),fun s hs=>?_⟩
   rw[hd.2 s hs]
   exact k1w _
theorem w7w (A:List z6)(hA:A.length≤1000000)(hr:∀ s∈A,s.length≤1000000):AF Tryz.prog x4g [.p (.sl 1 (z2 A)),.p (.sl 1 (z2 A))] [] (v8 (bl true) []):=by
 refine AF.mono (R:=fun r H'=>∃ z,z=true∧r=bl z∧H'=[]) ?_ (by rintro r H' ⟨z,rfl,rfl,rfl⟩;exact⟨rfl,rfl⟩)
 have hAl:=u5 A
 have b1:((((z2 A).length:Nat):Int) != (((z2 A).length:Nat):Int))=false:=bne_self_eq_false _
 refine v6 hT x4h rfl rfl x4i rfl ?_
 refine q8 hT ?_
 refine z7 ⟨⟨53,[(0,.p (.sl 1 (z2 A))),(1,.p (.sl 1 (z2 A)))]⟩,[]⟩ True (q8 hT ?_) (fun _=>?_)
 ·refine z4 (y4 (fun h=>?_) (fun h=>?_))
  ·have h:((((z2 A).length:Nat):Int) != (((z2 A).length:Nat):Int))=true:=h
   rw[b1]at h;cases h
  exact z5 ⟨q7 [] [0,1] rfl,trivial⟩
 refine z7 ⟨⟨53,[]⟩,[]⟩ True (q8 hT ?_) (fun _=>?_)
 ·refine z3 ?_
  refine y7 (fun n st=>∃ (i:Nat) (ji:Int),n+i=A.length∧ji=i∧st=⟨⟨53,[(0,.p (.sl 1 (z2 A))),(1,.p (.sl 1 (z2 A))),(5,i64 ji)]⟩,[]⟩) A.length ⟨⟨53,_⟩,_⟩ (q7 [] [0,1,5] rfl) ⟨0,0,by omega,rfl,rfl⟩ ?_
  rintro n st ⟨i,ji,hni,hji,rfl⟩
  refine z8 (q8 hT ?_)
  refine z4 (y4 (fun h=>?_) (fun h=>?_))
  ·have h:=k0q (show decide (ji<(((z2 A).length:Nat):Int))=true from h)
   have hi:i<A.length:=by omega
   refine z5 ?_
   have hs:=k0x hi
   have hsl:=hr _ (k1x hi)
   generalize A[i]=s at hs hsl
   have hsp:(z2 A)[ji.toNat]?=some [bP s]:=by rw[hji,k0v];exact Q0 hs
   have hbs:=w6 s
   have b2:((((bx s).length:Nat):Int) != (((bx s).length:Nat):Int))=false:=bne_self_eq_false _
   refine z7 ⟨⟨53,[(0,.p (.sl 1 (z2 A))),(1,.p (.sl 1 (z2 A))),(5,i64 ji)]⟩,[]⟩ True (z3 ?_) (fun _=>?_)
   ·refine z7 ⟨⟨53,[(0,.p (.sl 1 (z2 A))),(1,.p (.sl 1 (z2 A))),(5,i64 ji)]⟩,[]⟩ True (z8 ?_) (fun _=>?_)
    ·refine v7 [] [] hT y5 (by rfl) ?_
     refine⟨by omega,w9 hsp ?_⟩
     refine⟨by omega,w9 hsp ?_⟩
     refine z4 (y4 (fun h=>?_) (fun h=>?_))
     ·have h:((((bx s).length:Nat):Int) != (((bx s).length:Nat):Int))=true:=h
      rw[b2]at h;cases h
     exact z5 ⟨q7 [] [0,1,5] rfl,trivial⟩
    refine q8 hT ?_
    refine z3 ?_
    refine y7 (fun n st=>∃ (p:Nat) (jp:Int),n+p=s.length∧jp=p∧st=⟨⟨53,[(0,.p (.sl 1 (z2 A))),(1,.p (.sl 1 (z2 A))),(5,i64 ji),(6,i64 jp)]⟩,[]⟩) s.length ⟨⟨53,_⟩,_⟩ (q7 [] [0,1,5,6] rfl) ⟨0,0,by omega,rfl,rfl⟩ ?_
    rintro n2 st ⟨p,jp,hnp,hjp,rfl⟩
    refine z8 (q8 hT ?_)
    refine⟨by omega,w9 hsp ?_⟩
    refine z4 (y4 (fun h=>?_) (fun h=>?_))
    ·have h:=k0q (show decide (jp<(((bx s).length:Nat):Int))=true from h)
     have hp:p<s.length:=by omega
     refine z5 ?_
     have hv:(bx s)[jp.toNat]?=some [u8 (s.getD p 0)]:=by rw[hjp,k0v];exact u7 (Q3 hp)
     generalize s.getD p 0=v at hv
     have b3:(((v.toNat:Nat):Int) != ((v.toNat:Nat):Int))=false:=bne_self_eq_false _
     refine z7 ⟨⟨53,[(0,.p (.sl 1 (z2 A))),(1,.p (.sl 1 (z2 A))),(5,i64 ji),(6,i64 jp)]⟩,[]⟩ True (z3 (z8 ?_)) (fun _=>?_)
     ·refine v7 [] [] hT y5 (by rfl) ?_
      refine⟨by omega,w9 hsp ?_⟩
      refine⟨by omega,w9 hv ?_⟩
      refine⟨by omega,w9 hsp ?_⟩
      refine⟨by omega,w9 hv ?_⟩
      refine z4 (y4 (fun h=>?_) (fun h=>?_))
      ·have h:(((v.toNat:Nat):Int) != ((v.toNat:Nat):Int))=true:=h
       rw[b3]at h;cases h
      exact z5 ⟨q7 [] [0,1,5,6] rfl,trivial⟩
     ·refine q9 hT ?_
      exact⟨n2 - 1,by omega,_,q7 [] [0,1,5,6] rfl,p+1,IntKind.i64.wrap (jp+1),by omega,by rw[y8 _ (by omega) (by omega)];omega,rfl⟩
    ·refine x6 ?_
     exact⟨q7 [] [0,1,5] rfl,trivial⟩
   ·refine q9 hT ?_
    exact⟨n - 1,by omega,_,q7 [] [0,1,5] rfl,i+1,IntKind.i64.wrap (ji+1),by omega,by rw[y8 _ (by omega) (by omega)];omega,rfl⟩
  ·refine x6 ?_
   exact⟨q7 [] [] rfl,trivial⟩
 refine q8 hT ?_
 refine y9 ?_
 exact z9 [] ⟨true,rfl,rfl,rfl⟩ rfl
theorem x6t (l:List z6)(vol:Int)(g:GeoV)(area stripe no:Int)(hk4:g.k≤4)(hm3:g.m≤3)(hll:l.length≤1000000)(hls:∀ s∈l,s.length≤1000000) :
 AF Tryz.prog y4s [.p (.sl 1 (z2 l)),i64 vol,g.av,i64 area,i64 stripe,i64 no] [] (v8 (.tup [.p (.sl 1 (z2 (X4 l vol g area stripe no).1)),i64 (X4 l vol g area stripe no).2]) []):=by
 refine AF.mono (R:=fun r H'=>∃ z,z=X4 l vol g area stripe no∧r=.tup [.p (.sl 1 (z2 z.1)),i64 z.2]∧H'=[]) ?_ (by rintro r H' ⟨z,rfl,rfl,rfl⟩;exact⟨rfl,rfl⟩)
 have hcl:=u5 l
 have wF:=w3h g area stripe
 have wv:=y7x vol
 have wn:=y7x no
 have eZ:X4 l vol g area stripe no=match (X9 g area stripe).2 != 0||!U8 [vol,no]||!((l.length:Int)==g.k+g.m) with
  |true=>([],1)
  |false=>match (J9 (q0n vol (X9 g area stripe).1 no l) g.k.toNat g.m.toNat 228).2 != 0 with
   |true=>([],22)
   |false=>((J9 (q0n vol (X9 g area stripe).1 no l) g.k.toNat g.m.toNat 228).1,0):=rfl
 generalize X4 l vol g area stripe no=Z at eZ
 have hfe:(X9 g area stripe).2=0→W4 g area stripe:=fun h=>by
  by_cases hf:W4 g area stripe
  ·exact hf
  ·rw[q4p hf]at h;exact absurd h (by decide)
 generalize hF:X9 g area stripe=F at wF eZ hfe
 refine v6 hT y4t rfl rfl y4u rfl ?_
 refine z7 ⟨⟨116,[(0,.p (.sl 1 (z2 l))),(1,i64 vol),(3,i64 area),(4,i64 stripe),(5,i64 no),(8,.p (.box g.pv))]⟩,[]⟩ True (q9 hT ?_) (fun _=>?_)
 ·exact⟨Wk.trans (Q4 0 g.pv rfl rfl) (q7 [] [0,1,3,4,5,8] rfl),trivial⟩
 refine z7 ⟨⟨116,[(0,.p (.sl 1 (z2 l))),(1,i64 vol),(5,i64 no),(8,.p (.box g.pv)),(14,i64 F.1),(15,i64 F.2)]⟩,[]⟩ True (q9 hT ?_) (fun _=>?_)
 ·refine x7 (w7 wF _ rfl rfl) ?_
  exact⟨q7 [] [0,1,5,8,14,15] rfl,trivial⟩
 refine z7 ⟨⟨116,[(0,.p (.sl 1 (z2 l))),(1,i64 vol),(5,i64 no),(8,.p (.box g.pv)),(14,i64 F.1)]⟩,[]⟩ (F.2=0∧U8 [vol,no]=true∧(l.length:Int)=g.k+g.m) ?_ ?_
 ·refine y6 (fun st=>∃ v,(v=true→Z=([],1))∧(v=false→F.2=0∧U8 [vol,no]=true∧(l.length:Int)=IntKind.i64.wrap (g.k+g.m))∧st=⟨⟨116,[(0,.p (.sl 1 (z2 l))),(1,i64 vol),(5,i64 no),(8,.p (.box g.pv)),(14,i64 F.1),(50,bl v)]⟩,[]⟩) (q9 hT ?_) ?_
  ·rw[w3p]at eZ
   refine y4 (fun h=>?_) (fun h=>?_)
   ·have h:(F.2 != 0)=true:=h
    rw[h]at eZ
    exact⟨_,q7 [] [0,1,5,8,14,50] rfl,true,fun _=>eZ,fun e=>(by cases e),rfl⟩
   have h0:(F.2 != 0)=false:=h
   rw[h0]at eZ
   refine x7 (w7 wv _ rfl rfl) ?_
   refine y4 (fun h=>?_) (fun h=>?_)
   ·have h:(!Y2 vol)=true:=h
    rw[show Y2 vol=false by simpa using h]at eZ
    exact⟨_,q7 [] [0,1,5,8,14,50] rfl,true,fun _=>eZ,fun e=>(by cases e),rfl⟩
   have h1:(!Y2 vol)=false:=h
   have e1:Y2 vol=true:=by simpa using h1
   rw[e1]at eZ
   refine x7 (w7 wn _ rfl rfl) ?_
   refine y4 (fun h=>?_) (fun h=>?_)
   ·have h:(!Y2 no)=true:=h
    rw[show Y2 no=false by simpa using h]at eZ
    exact⟨_,q7 [] [0,1,5,8,14,50] rfl,true,fun _=>eZ,fun e=>(by cases e),rfl⟩
   have h2:(!Y2 no)=false:=h
   have e2:Y2 no=true:=by simpa using h2
   rw[e2]at eZ
   have hok:=hfe (by simpa using h0)
   obtain⟨_,_,_,_,h5,h6,h7,h8⟩:=V1 (V3 hok.1)
   have hwr:IntKind.i64.wrap (g.k+g.m)=g.k+g.m:=y8 _ (by omega) (by omega)
   refine⟨_,q7 [] [0,1,5,8,14,50] rfl,(((z2 l).length:Int) != IntKind.i64.wrap (g.k+g.m)),fun e=>?_,fun e=>?_,rfl⟩
   ·rw[hcl,hwr]at e
    rw[eZ,show (!((l.length:Int)==g.k+g.m))=true from e];rfl
   ·rw[hcl,hwr]at e
    exact⟨by simpa using h0,by rw[w3p,e1,e2];rfl,by rw[hwr];simpa using e⟩
  ·rintro _ ⟨v,hv1,hv2,rfl⟩
   refine z4 (y4 (fun h=>?_) (fun h=>?_))
   ·refine q8 hT ?_
    refine u6 (q1a 12 1 rfl) ?_
    refine y9 ?_
    exact z9 [] ⟨([],1),(hv1 h).symm,rfl,rfl⟩ rfl
   ·obtain⟨c1,c2,c3⟩:=hv2 h
    have hok:=hfe c1
    obtain⟨_,_,_,_,h5,h6,h7,h8⟩:=V1 (V3 hok.1)
    rw[y8 _ (by omega) (by omega)]at c3
    exact z5 ⟨q7 [] [0,1,5,8,14] rfl,c1,c2,c3⟩
 rintro⟨c1,c2,c3⟩
 have hok:=hfe c1
 obtain⟨hg,a0,a1,s0,s1⟩:=hok
 obtain⟨h1,h2,h3,h4,h5,h6,h7,h8⟩:=V1 (V3 hg)
 rw[c1,c2,show ((l.length:Int)==g.k+g.m)=true from beq_iff_eq.mpr c3]at eZ
 obtain⟨A,hA⟩:∃ A,A=F.1:=⟨_,rfl⟩
 rw[← hA]at eZ
 have hAr:=w2t hg a0 a1 s0 s1
 have hAF:A=g.at_ area stripe:=by rw[hA,← hF,q2f ⟨hg,a0,a1,s0,s1⟩]
 rw[← hAF]at hAr
 rw[← hA]
 obtain⟨k,hk⟩:∃ n:Nat,g.k=n:=⟨g.k.toNat,by omega⟩
 obtain⟨m,hm⟩:∃ n:Nat,g.m=n:=⟨g.m.toNat,by omega⟩
 rw[hk,hm,k0v,k0v]at eZ
 have hlk:l.length=k+m:=by omega
 have eZ:Z=match (J9 (q0n vol A no l) k m 228).2 != 0 with
  |true=>([],22)
  |false=>((J9 (q0n vol A no l) k m 228).1,0):=eZ
 have hLl:=z4a vol A no l
 have hL:q0n vol A no l=q6t (fun i=>q0v vol A no i (l.getD i [])) l.length l.length:=by rw[w2v];rfl
 have hLs:∀ s∈q0n vol A no l,s.length=0∨s.length=228:=fun s hs=>by
  unfold q0n at hs
  rw[List.mem_map]at hs
  obtain⟨i,_,rfl⟩:=hs
  exact z4b _ _ _ _ _
 have wD:=x0e (q0n vol A no l) k m 228 (by omega) (by omega) (by omega) (by omega) (by decide) (by decide) (by omega) hLs
 generalize J9 (q0n vol A no l) k m 228=D at eZ wD
 generalize hLe:q0n vol A no l=LB at hL wD
 have hfd:∀ i s,l[i]?=some s→q0v vol A no i (l.getD i [])=q0v vol A no i s:=fun i s h=>by rw[k0w,h];rfl
 generalize hf:(fun i=>q0v vol A no i (l.getD i []))=f at hL
 have hfd:∀ i s,l[i]?=some s→f i=q0v vol A no i s:=fun i s h=>by rw[← hf];exact hfd i s h
 have hz:=x2h f l.length
 clear wF wv wn hfe hF c1 c2 c3 hLs hf hLe
 rw[← hk]at wD
 refine y6 (fun st=>∃ X n,X=z2 (q6t f l.length 0)∧n=l.length∧st=⟨⟨116,[(0,.p (.sl 1 (z2 l))),(1,i64 vol),(5,i64 no),(8,.p (.box g.pv)),(14,i64 A),(16,.msl 0 1 0 n)]⟩,[.row z0 1 X]⟩) (q9 hT ?_) ?_
 ·refine⟨⟨rfl,by omega,by show (((z2 l).length:Nat):Int)*24≤_;omega,by omega⟩,?_⟩
  refine⟨_,Wk.trans (w4r 0 (List.replicate (z2 l).length [bP []]) rfl (by simp) ?_) (q7 [0] [0,1,5,8,14,16] rfl),_,(z2 l).length,by rw[hz,hcl],hcl,rfl⟩
  intro j e2 he
  rw[List.getElem?_replicate]at he
  split at he
  ·rename_i hj
   obtain rfl:=k0y he
   refine⟨[.raw (.slice none 0 0)],by
    show (List.replicate _ _)[j]?=_
    rw[List.getElem?_replicate,if_pos (by simpa using hj)];rfl,rfl,fun i u2 hu=>?_⟩
   cases i with
   |zero=>obtain rfl:=k0y hu;exact⟨_,rfl,.inr ⟨1,rfl,rfl⟩⟩
   |succ i=>simp at hu
  ·cases he
 rintro _ ⟨X,n,hX,hn,rfl⟩
 refine y6 (fun st=>∃ X,X=z2 LB∧st=⟨⟨116,[(8,.p (.box g.pv)),(16,.msl 0 1 0 n)]⟩,[.row z0 1 X]⟩) (q8 hT ?_) ?_
 ·refine z3 ?_
  refine y7 (fun c s=>∃ (j:Nat) (jj:Int) (X:_),c+j=n∧jj=j∧X=z2 (q6t f l.length j)∧s=⟨⟨116,[(0,.p (.sl 1 (z2 l))),(1,i64 vol),(5,i64 no),(8,.p (.box g.pv)),(14,i64 A),(16,.msl 0 1 0 n),(17,i64 jj)]⟩,[.row z0 1 X]⟩) n ⟨⟨116,_⟩,_⟩ (q7 [0] [0,1,5,8,14,16,17] rfl) ⟨0,0,X,by omega,rfl,hX,rfl⟩ ?_
  clear hX hz
  rintro c s ⟨j,jj,X,hcj,hjj,hX,rfl⟩
  refine z8 (q8 hT ?_)
  refine z4 (y4 (fun h=>?_) (fun h=>?_))
  ·have h:=k0q (show decide (jj<(((z2 l).length:Nat):Int))=true from h)
   have hj:j<l.length:=by omega
   refine z5 ?_
   have hx:=k0x hj
   have hsl:=hls _ (k1x hj)
   generalize l[j]=sec at hx hsl
   have hfj:=hfd j sec hx
   have hxp:(z2 l)[jj.toNat]?=some [bP sec]:=by rw[hjj,k0v];exact Q0 hx
   have wO:=w6k sec hsl
   have hkf:q0v vol A no j sec=match (Y8 sec).2==0&&(Y8 sec).1.kind==4&&(Y8 sec).1.vol==vol&&(Y8 sec).1.addr==A+j&&(Y8 sec).1.seq==no&&((Y8 sec).1.body.length:Int)==228 with
    |true=>(Y8 sec).1.body
    |false=>[]:=rfl
   rw[← hfj]at hkf
   generalize Y8 sec=OB at wO hkf
   obtain⟨ob,oe⟩:=OB
   have hbl:=w6 ob.body
   have hXl:X.length=l.length:=by rw[hX,u5,q5w]
   have hXg:X[0+jj.toNat]?=some [bP []]:=by
    rw[show 0+jj.toNat=j by omega,hX,Q0 (q9q hj),if_neg (by omega)]
   have hset:X.set (0+jj.toNat) [bP (f j)]=z2 (q6t f l.length (j+1)):=by
    rw[show 0+jj.toNat=j by omega,hX];exact w2u hj
   have hskip:f j=[]→X=z2 (q6t f l.length (j+1)):=fun e=>by rw[x2g e,hX]
   have hwr:IntKind.i64.wrap (A+jj)=A+j:=by rw[y8 _ (by omega) (by omega),hjj]
   refine y6 (fun st=>∃ X,X=z2 (q6t f l.length (j+1))∧st=⟨⟨116,[(0,.p (.sl 1 (z2 l))),(1,i64 vol),(5,i64 no),(8,.p (.box g.pv)),(14,i64 A),(16,.msl 0 1 0 n),(17,i64 jj)]⟩,[.row z0 1 X]⟩) (z3 ?_) ?_
   ·refine z7 ⟨⟨116,[(0,.p (.sl 1 (z2 l))),(1,i64 vol),(5,i64 no),(8,.p (.box g.pv)),(14,i64 A),(16,.msl 0 1 0 n),(17,i64 jj),(18,.p (.box ob.pv)),(19,i64 oe)]⟩,[.row z0 1 X]⟩ True (q9 hT ?_) (fun _=>?_)
    ·refine⟨by omega,w9 hxp ?_⟩
     refine x7 (w7 wO _ rfl rfl) ?_
     exact⟨Wk.trans (Q4 1 ob.pv rfl rfl) (q7 [0] [0,1,5,8,14,16,17,18,19] rfl),trivial⟩
    refine y6 (fun st=>∃ v,v=(oe==0&&ob.kind==4&&ob.vol==vol&&ob.addr==A+j&&ob.seq==no&&(ob.body.length:Int)==228)∧st=⟨⟨116,[(0,.p (.sl 1 (z2 l))),(1,i64 vol),(5,i64 no),(8,.p (.box g.pv)),(14,i64 A),(16,.msl 0 1 0 n),(17,i64 jj),(18,.p (.box ob.pv)),(100,bl v)]⟩,[.row z0 1 X]⟩) (q9 hT ?_) ?_
    ·rw[← hwr,← hbl]
     refine y4 (fun h=>?_) (fun h=>?_)
     ·rw[show (oe==0)=true from h]
      refine y4 (fun h=>?_) (fun h=>?_)
      ·rw[show (ob.kind==4)=true from h]
       refine y4 (fun h=>?_) (fun h=>?_)
       ·rw[show (ob.vol==vol)=true from h]
        refine y4 (fun h=>?_) (fun h=>?_)
        ·rw[show (ob.addr==IntKind.i64.wrap (A+jj))=true from h]
         refine y4 (fun h=>?_) (fun h=>?_)
         ·rw[show (ob.seq==no)=true from h]
          exact⟨_,q7 [0] [0,1,5,8,14,16,17,18,100] rfl,_,rfl,rfl⟩
         ·rw[show (ob.seq==no)=false from h]
          exact⟨_,q7 [0] [0,1,5,8,14,16,17,18,100] rfl,_,rfl,rfl⟩
        ·rw[show (ob.addr==IntKind.i64.wrap (A+jj))=false from h]
         exact⟨_,q7 [0] [0,1,5,8,14,16,17,18,100] rfl,_,rfl,rfl⟩
       ·rw[show (ob.vol==vol)=false from h]
        exact⟨_,q7 [0] [0,1,5,8,14,16,17,18,100] rfl,_,rfl,rfl⟩
      ·rw[show (ob.kind==4)=false from h]
       exact⟨_,q7 [0] [0,1,5,8,14,16,17,18,100] rfl,_,rfl,rfl⟩
     ·rw[show (oe==0)=false from h]
      exact⟨_,q7 [0] [0,1,5,8,14,16,17,18,100] rfl,_,rfl,rfl⟩
    rintro _ ⟨v,hv,rfl⟩
    have hkf:f j=match (generalizing:=false) v with|true=>ob.body|false=>[]:=by rw[hv];exact hkf
    clear hv
    refine z4 (y4 (fun h=>?_) (fun h=>?_))
    ·have h:v=true:=h
     rw[h]at hkf
     rw[show f j=ob.body from hkf]at hset
     refine q9 hT ?_
     refine⟨⟨by omega,by omega⟩,?_⟩
     refine w9 hXg ?_
     exact⟨_,q7 [0] [0,1,5,8,14,16,17] rfl,_,hset,rfl⟩
    ·have h:v=false:=h
     rw[h]at hkf
     exact z5 ⟨_,q7 [0] [0,1,5,8,14,16,17] rfl,X,hskip hkf,rfl⟩
   ·rintro _ ⟨X,rfl,rfl⟩
    refine q9 hT ?_
    exact⟨c - 1,by omega,_,q7 [0] [0,1,5,8,14,16,17] rfl,j+1,IntKind.i64.wrap (jj+1),_,by omega,by rw[y8 _ (by omega) (by omega)];omega,rfl,rfl⟩
  ·have h:=k0z (show decide (jj<(((z2 l).length:Nat):Int))=false from h)
   rw[show j=l.length by omega,← hL]at hX
   refine x6 ?_
   exact⟨_,q7 [0] [8,16] rfl,X,hX,rfl⟩
 rintro _ ⟨X,rfl,rfl⟩
 have hLc:=u5 LB
 have hLl2:LB.length=n:=by rw[hL,q5w,hn]
 refine u6 (Z6 16 0 n rfl (by omega) rfl rfl) ?_
 refine z7 ⟨⟨116,[(20,.p (.sl 1 (z2 D.1))),(21,i64 D.2)]⟩,[]⟩ True (q9 hT ?_) (fun _=>?_)
 ·refine x7 (w7 wD _ rfl rfl) ?_
  exact⟨q7 [] [20,21] rfl,trivial⟩
 refine z8 (q8 hT ?_)
 refine z4 (y4 (fun h=>?_) (fun h=>?_))
 ·have h:(D.2 != 0)=true:=h
  rw[h]at eZ
  refine q8 hT ?_
  refine u6 (q1a 12 1 rfl) ?_
  refine y9 ?_
  exact z9 [] ⟨([],22),eZ.symm,rfl,rfl⟩ rfl
 ·have h:(D.2 != 0)=false:=h
  rw[h]at eZ
  refine z5 ?_
  refine q8 hT ?_
  refine y9 ?_
  exact z9 [] ⟨(D.1,0),eZ.symm,rfl,rfl⟩ rfl
theorem x6u (l:List z6)(vol:Int)(g:GeoV)(area stripe no:Int):AF Tryz.prog z4g [.p (.sl 1 (z2 l)),i64 vol,g.av,i64 area,i64 stripe,i64 no] [] (v8 (bl true) []):=by
 refine AF.mono (R:=fun r H'=>∃ z,z=true∧r=bl z∧H'=[]) ?_ (by rintro r H' ⟨b,rfl,rfl,rfl⟩;exact⟨rfl,rfl⟩)
 have wsm:=w3e g
 have hcl:=u5 l
 generalize hsm:z8m g=sm at wsm
 refine v6 hT z4h rfl rfl z4i rfl ?_
 refine z7 ⟨⟨77,[(0,.p (.sl 1 (z2 l))),(1,i64 vol),(3,i64 area),(4,i64 stripe),(5,i64 no),(8,.p (.box g.pv))]⟩,[]⟩ True (q9 hT ?_) (fun _=>?_)
 ·exact⟨Wk.trans (Q4 0 g.pv rfl rfl) (q7 [] [0,1,3,4,5,8] rfl),trivial⟩
 refine q8 hT ?_
 refine x7 (w7 w3g _ rfl rfl) ?_
 refine q8 hT ?_
 refine x7 (w7 wsm _ rfl rfl) ?_
 refine z7 ⟨⟨77,[(0,.p (.sl 1 (z2 l))),(1,i64 vol),(3,i64 area),(4,i64 stripe),(5,i64 no),(8,.p (.box g.pv))]⟩,[]⟩ (sm=true∧l.length≤10) (q8 hT ?_) ?_
 ·refine y4 (fun h=>?_) (fun h=>?_)
  ·refine z4 ?_
   refine q8 hT ?_
   refine y9 ?_
   exact z9 [] ⟨true,rfl,rfl,rfl⟩ rfl
  ·have h:(!sm)=false:=h
   rw[Bool.not_eq_false']at h
   refine z4 (y4 (fun h2=>?_) (fun h2=>?_))
   ·refine q8 hT ?_
    refine y9 ?_
    exact z9 [] ⟨true,rfl,rfl,rfl⟩ rfl
   ·have h2:=k0z (show decide ((((z2 l).length:Nat):Int) > 10)=false from h2)
    exact z5 ⟨q7 [] [0,1,3,4,5,8] rfl,h,by omega⟩
 rintro⟨hs,hll⟩
 rw[hs]at hsm
 obtain⟨_,hs3,hk4,hm3⟩:=v8y hsm
 refine z7 ⟨⟨77,[(0,.p (.sl 1 (z2 l))),(1,i64 vol),(3,i64 area),(4,i64 stripe),(5,i64 no),(8,.p (.box g.pv))]⟩,[]⟩ (∀ s∈l,s.length≤300) (q8 hT ?_) ?_
 ·refine z3 ?_
  refine y7 (fun n st=>∃ (i:Nat) (ji:Int),n+i=l.length∧ji=i∧(∀ s∈l.take i,s.length≤300)∧st=⟨⟨77,[(0,.p (.sl 1 (z2 l))),(1,i64 vol),(3,i64 area),(4,i64 stripe),(5,i64 no),(8,.p (.box g.pv)),(15,i64 ji)]⟩,[]⟩) l.length ⟨⟨77,_⟩,_⟩ (q7 [] [0,1,3,4,5,8,15] rfl) ⟨0,0,by omega,rfl,fun s h=>by simp at h,rfl⟩ ?_
  rintro n st ⟨i,ji,hni,hji,hle,rfl⟩
  refine z8 (q8 hT ?_)
  refine z4 (y4 (fun h=>?_) (fun h=>?_))
  ·have h:=k0q (show decide (ji<(((z2 l).length:Nat):Int))=true from h)
   have hi:i<l.length:=by omega
   refine z5 ?_
   have hx:=k0x hi
   generalize l[i]=s at hx
   have hsp:(z2 l)[ji.toNat]?=some [bP s]:=by rw[hji,k0v];exact Q0 hx
   have hbs:=w6 s
   refine z7 ⟨⟨77,[(0,.p (.sl 1 (z2 l))),(1,i64 vol),(3,i64 area),(4,i64 stripe),(5,i64 no),(8,.p (.box g.pv)),(15,i64 ji)]⟩,[]⟩ (s.length≤300) (z3 (q8 hT ?_)) (fun hsl=>?_)
   ·refine⟨by omega,w9 hsp ?_⟩
    refine z4 (y4 (fun h=>?_) (fun h=>?_))
    ·refine q8 hT ?_
     refine y9 ?_
     exact z9 [] ⟨true,rfl,rfl,rfl⟩ rfl
    ·have h:=k0z (show decide ((((bx s).length:Nat):Int) > 300)=false from h)
     exact z5 ⟨q7 [] [0,1,3,4,5,8,15] rfl,by omega⟩
   ·refine q9 hT ?_
    refine⟨n - 1,by omega,_,q7 [] [0,1,3,4,5,8,15] rfl,i+1,IntKind.i64.wrap (ji+1),by omega,by rw[y8 _ (by omega) (by omega)];omega,fun t ht=>?_,rfl⟩
    rw[k2t,hx]at ht
    rcases List.mem_append.mp ht with ht|ht
    ·exact hle t ht
    ·rw[List.mem_singleton.mp (show t∈[s] from ht)];exact hsl
  ·have h:=k0z (show decide (ji<(((z2 l).length:Nat):Int))=false from h)
   rw[k2z (by omega)]at hle
   refine x6 ?_
   exact⟨q7 [] [0,1,3,4,5,8] rfl,hle⟩
 intro hls
 have wS:=y1m l vol g area stripe no hk4 hm3 (by omega) (fun s hs=>Nat.le_trans (hls s hs) (by decide))
 have wR:=x6t l vol g area stripe no hk4 hm3 (by omega) (fun s hs=>Nat.le_trans (hls s hs) (by decide))
 have hle:=w7v (l:=l) (vol:=vol) (area:=area) (stripe:=stripe) (no:=no) hk4 hm3
 generalize X4 l vol g area stripe no=Z at wS wR hle
 obtain⟨a,e⟩:=Z
 have wE:=w7w a (Nat.le_trans hle.1 (by decide)) (fun s hs=>Nat.le_trans (hle.2 s hs) (by decide))
 refine z7 ⟨⟨77,[(0,.p (.sl 1 (z2 l))),(1,i64 vol),(3,i64 area),(4,i64 stripe),(5,i64 no),(8,.p (.box g.pv)),(16,.p (.sl 1 (z2 a))),(17,i64 e)]⟩,[]⟩ True (q9 hT ?_) (fun _=>?_)
 ·refine x7 (w7 wS _ rfl rfl) ?_
  exact⟨q7 [] [0,1,3,4,5,8,16,17] rfl,trivial⟩
 refine z7 ⟨⟨77,[(16,.p (.sl 1 (z2 a))),(17,i64 e),(18,.p (.sl 1 (z2 a))),(19,i64 e)]⟩,[]⟩ True (q9 hT ?_) (fun _=>?_)
 ·refine x7 (w7 wR _ rfl rfl) ?_
  exact⟨q7 [] [16,17,18,19] rfl,trivial⟩
 refine q8 hT ?_
 refine x7 (w7 wE _ rfl rfl) ?_
 refine q8 hT ?_
 refine y9 ?_
 exact z9 [] ⟨(e==e),beq_self_eq_true _,rfl,rfl⟩ rfl
end Go.Proofs.YtinfbclgkghgaaaGreat.AL
namespace Go.Proofs.YtinfbclgkghgaaaGreat.AL
open Go Go.RowKit Go.ChangeShapes Go.WideShapes Go.ChangeAt Go.Deep
theorem v8z {P:Program}{f:FuncId}{args:List AV}{r:Value}{W:World}{vals:Array Value}(h:AF P f args [] (v8 (.p (.raw r)) []))(hn:vals.size=args.length)
 (ha:∀ i u,args[i]?=some u→ARep W (·<W.heap.size) (fun _=>none) u (vals.getD i undef)):Calls P f vals W fun e W'=>e=.returned r∧Below W.heap.size W W':=by
 have hs:SimH W (·<W.heap.size) (fun _=>none) []:=⟨fun b k hb=>by simp at hb,fun b b' B hb=>by obtain⟨k,hk,_⟩:=hb;simp at hk,fun B hB=>hB,fun _ _=>rfl,fun b B hb=>by simp at hb⟩
 refine(h.2 W _ _ vals hn ha hs).mono ?_
 rintro e W' ⟨v,r',H',I',ι',rfl,⟨rfl,rfl⟩,hr,hs',hx⟩
 rw[Q9 hr]
 refine⟨rfl,⟨hx.ext.os,hx.ext.tape,hx.ext.output,hx.ext.size,fun k hk=>hx.ext.frame k hk ?_⟩⟩
 rintro⟨b,hb,_⟩
 obtain⟨k',hk',_⟩:=hb
 simp at hk'
section
variable {H:Type} {enc:TypeId × Value→H} {P:Program} {W:World} {spare:Nat→Bool} {held:Bool}
theorem z4x {n:Nat}(h:n≤maxLen):n≤9223372036854775807:=by
 have:maxLen=9223372036854775807:=by decide
 omega
theorem v3n {t e:TypeId}{v:Value}{d:DataW H}{ps:List MemPlace}{r:Reach}{b0:Nat}{ι:Nat→Option Nat}(ht:P.underlying t=some (.slice e))(hval:Value.okWide P W r b0 t v)(h:DataW.Trod enc P W 0 spare held t v d ps)
 {α:Type} [Inhabited α] (pv:α→List PV) (sz:Nat) (hsz:P.cellsOf e=sz) (h0:0<sz)
 (hel:∀ (n:Nat) (cs:List Value) (x:DataW H × List MemPlace),DataW.trod enc P W 0 spare held n e cs=some x→∃ a:α,(pv a).length=sz∧∀ (i:Nat) (u:PV),(pv a)[i]?=some u→∀ v:Value,cs[i]?=some v→PRep W (·<W.heap.size) u v) :
 ∃ l:List α,ARep W (·<W.heap.size) ι (.p (.sl sz (l.map pv))) v:=by
 classical
 obtain⟨a0,len,cap,rfl⟩:=okWide_slice ht hval
 obtain⟨fuel,hf⟩:=h
 rcases open_slice ht hf with ⟨hcs,_⟩|⟨a,len',cap',m,n,D,Pl,hcs,_,hl,hm,hmm,_,hx⟩
 ·simp[Value.cells]at hcs
  obtain⟨rfl,rfl,rfl⟩:=hcs
  exact⟨[],.p (PRep.sl sz [] none 0 (fun _ _=>undef) (by simp) (by simp) (.inl rfl) (fun j e i u h=>by simp at h))⟩
 ·simp[Value.cells]at hcs
  obtain⟨rfl,rfl,rfl⟩:=hcs
  have hlm:len≤m:=by rw[hmm];split <;> omega
  have hone:∀ i,∃ x:α,i<len→(pv x).length=sz∧(∀ k,k<sz→∃ v,W.cell? ((a.add (i*sz)).add k)=some v)∧∀ (k:Nat) (u:PV) (v:Value),(pv x)[k]?=some u→W.cell? ((a.add (i*sz)).add k)=some v→PRep W (·<W.heap.size) u v:=by
   intro i
   by_cases hi:i<len
   ·obtain⟨cs',h1,h2⟩:=hx i (by omega)
    rw[hsz]at h1
    obtain⟨x,h3,h4⟩:=hel n cs' _ h2
    obtain⟨_,hlen,hc⟩:=World.cells?_some h1
    refine⟨x,fun _=>⟨h3,fun k hk=>?_,fun k u v hu hv=>?_⟩⟩
    ·exact⟨cs'[k]'(by omega),by rw[hc k hk,k0x]⟩
    ·have hk:k<sz:=by rw[← h3];exact(k0u.1 hu).1
     exact h4 k u hu v (by rw[← hc k hk];exact hv)
   ·exact⟨default,fun h=>absurd h hi⟩
  let g:Nat→α:=fun i=>(hone i).choose
  have hg:∀ i,i<len→(pv (g i)).length=sz∧(∀ k,k<sz→∃ v,W.cell? ((a.add (i*sz)).add k)=some v)∧∀ (k:Nat) (u:PV) (v:Value),(pv (g i))[k]?=some u→W.cell? ((a.add (i*sz)).add k)=some v→PRep W (·<W.heap.size) u v:=fun i hi=>(hone i).choose_spec hi
  clear_value g
  have hlen:(((List.range len).map g).map pv).length=len:=by simp
  have hget:∀ (j:Nat) (e:List PV),(((List.range len).map g).map pv)[j]?=some e→j<len∧e=pv (g j):=by
   intro j e hj
   have hjl:j<len:=by rw[← hlen];exact(k0u.1 hj).1
   simp[hjl]at hj
   exact⟨hjl,hj.symm⟩
  refine⟨(List.range len).map g,.p ?_⟩
  have:=PRep.sl (w:=W) (I:=(·<W.heap.size)) sz (((List.range len).map g).map pv) (some a) cap (fun j i=>(W.cell? ((a.add (j*sz)).add i)).getD undef) (by omega) (by have:=z4x hm;omega) ?_ ?_
  ·rw[hlen]at this;exact this
  ··rcases Nat.eq_zero_or_pos len with hz|hz
    ·subst hz;exact .inl rfl
    ·obtain⟨v,hv⟩:=(hg 0 hz).2.1 0 h0
     obtain⟨ab,ao,asp⟩:=a
     have hspot:asp=none:=by simpa [Addr.add] using World.cell?_spot hv
     subst hspot
     refine .inr ⟨ab,ao,rfl,?_,fun j e hj=>?_⟩
     ·unfold World.cell? at hv
      split at hv
      ·rename_i hb
       have:=(Array.getElem?_eq_some_iff.1 hb).1
       simpa [Addr.add] using this
      ·simp at hv
     ·obtain⟨hjl,rfl⟩:=hget j e hj
      refine⟨(hg j hjl).1,fun i hi=>?_⟩
      obtain⟨v,hv⟩:=(hg j hjl).2.1 i hi
      have e1:(Addr.add ⟨ab,ao,none⟩ (j*sz)).add i=⟨ab,ao+j*sz+i,none⟩:=by rw[add_plain,add_plain]
      rw[e1]at hv
      rw[hv]
      show some v=some ((W.cell? _).getD undef)
      rw[e1,hv];rfl
  ·intro j e i u hj hu
   obtain⟨hjl,rfl⟩:=hget j e hj
   have hi:i<sz:=by rw[← (hg j hjl).1];exact(k0u.1 hu).1
   obtain⟨v,hv⟩:=(hg j hjl).2.1 i hi
   rw[hv]
   exact(hg j hjl).2.2 i u v hu hv
theorem w7x {t e:TypeId}{fuel:Nat}{vs:List Value}{y:DataW H × List MemPlace}(ht:P.underlying t=some (.slice e))(hf:DataW.trod enc P W 0 spare held fuel t vs=some y)
 {α:Type} [Inhabited α] (pv:α→List PV) (sz:Nat) (hsz:P.cellsOf e=sz) (h0:0<sz)
 (hel:∀ (n:Nat) (cs:List Value) (x:DataW H × List MemPlace),DataW.trod enc P W 0 spare held n e cs=some x→∃ a:α,(pv a).length=sz∧∀ (i:Nat) (u:PV),(pv a)[i]?=some u→∀ v:Value,cs[i]?=some v→PRep W (·<W.heap.size) u v) :
 ∃ (l:List α) (v:Value),vs=[v]∧PRep W (·<W.heap.size) (.sl sz (l.map pv)) v:=by
 classical
 rcases open_slice ht hf with ⟨hcs,_⟩|⟨a,len,cap,m,n,D,Pl,hcs,_,hl,hm,hmm,_,hx⟩
 ·exact⟨[],_,hcs,(PRep.sl sz [] none 0 (fun _ _=>undef) (by simp) (by simp) (.inl rfl) (fun j e i u h=>by simp at h))⟩
 ·have hlm:len≤m:=by rw[hmm];split <;> omega
  have hone:∀ i,∃ x:α,i<len→(pv x).length=sz∧(∀ k,k<sz→∃ v,W.cell? ((a.add (i*sz)).add k)=some v)∧∀ (k:Nat) (u:PV) (v:Value),(pv x)[k]?=some u→W.cell? ((a.add (i*sz)).add k)=some v→PRep W (·<W.heap.size) u v:=by
   intro i
   by_cases hi:i<len
   ·obtain⟨cs',h1,h2⟩:=hx i (by omega)
    rw[hsz]at h1
    obtain⟨x,h3,h4⟩:=hel n cs' _ h2
    obtain⟨_,hlen,hc⟩:=World.cells?_some h1
    refine⟨x,fun _=>⟨h3,fun k hk=>?_,fun k u v hu hv=>?_⟩⟩
    ·exact⟨cs'[k]'(by omega),by rw[hc k hk,k0x]⟩
    ·have hk:k<sz:=by rw[← h3];exact(k0u.1 hu).1
     exact h4 k u hu v (by rw[← hc k hk];exact hv)
   ·exact⟨default,fun h=>absurd h hi⟩
  let g:Nat→α:=fun i=>(hone i).choose
  have hg:∀ i,i<len→(pv (g i)).length=sz∧(∀ k,k<sz→∃ v,W.cell? ((a.add (i*sz)).add k)=some v)∧∀ (k:Nat) (u:PV) (v:Value),(pv (g i))[k]?=some u→W.cell? ((a.add (i*sz)).add k)=some v→PRep W (·<W.heap.size) u v:=fun i hi=>(hone i).choose_spec hi
  clear_value g
  have hlen:(((List.range len).map g).map pv).length=len:=by simp
  have hget:∀ (j:Nat) (e:List PV),(((List.range len).map g).map pv)[j]?=some e→j<len∧e=pv (g j):=by
   intro j e hj
   have hjl:j<len:=by rw[← hlen];exact(k0u.1 hj).1
   simp[hjl]at hj
   exact⟨hjl,hj.symm⟩
  refine⟨(List.range len).map g,_,hcs,?_⟩
  have:=PRep.sl (w:=W) (I:=(·<W.heap.size)) sz (((List.range len).map g).map pv) (some a) cap (fun j i=>(W.cell? ((a.add (j*sz)).add i)).getD undef) (by omega) (by have:=z4x hm;omega) ?_ ?_
  ·rw[hlen]at this;exact this
  ··rcases Nat.eq_zero_or_pos len with hz|hz
    ·subst hz;exact .inl rfl
    ·obtain⟨v,hv⟩:=(hg 0 hz).2.1 0 h0
     obtain⟨ab,ao,asp⟩:=a
     have hspot:asp=none:=by simpa [Addr.add] using World.cell?_spot hv
     subst hspot
     refine .inr ⟨ab,ao,rfl,?_,fun j e hj=>?_⟩
     ·unfold World.cell? at hv
      split at hv
      ·rename_i hb
       have:=(Array.getElem?_eq_some_iff.1 hb).1
       simpa [Addr.add] using this
      ·simp at hv
     ·obtain⟨hjl,rfl⟩:=hget j e hj
      refine⟨(hg j hjl).1,fun i hi=>?_⟩
      obtain⟨v,hv⟩:=(hg j hjl).2.1 i hi
      have e1:(Addr.add ⟨ab,ao,none⟩ (j*sz)).add i=⟨ab,ao+j*sz+i,none⟩:=by rw[add_plain,add_plain]
      rw[e1]at hv
      rw[hv]
      show some v=some ((W.cell? _).getD undef)
      rw[e1,hv];rfl
  ·intro j e i u hj hu
   obtain⟨hjl,rfl⟩:=hget j e hj
   have hi:i<sz:=by rw[← (hg j hjl).1];exact(k0u.1 hu).1
   obtain⟨v,hv⟩:=(hg j hjl).2.1 i hi
   rw[hv]
   exact(hg j hjl).2.2 i u v hu hv
end
end Go.Proofs.YtinfbclgkghgaaaGreat.AL
namespace Go.Proofs.YtinfbclgkghgaaaGreat.AL
open Go Go.RowKit Go.ChangeShapes Go.WideShapes Go.ChangeAt Go.Deep Go.Proofs
theorem u1c {W:World}{I:Nat→Prop}(k:IntKind)(n:Int):PRep W I (.raw (.int k n)) (.int k n):=.raw _ rfl
theorem q8q {W:World}{I:Nat→Prop}{ι:Nat→Option Nat}(n:Int):ARep W I ι (i64 n) (.int .i64 n):=.p (.raw _ rfl)
section
variable {H:Type} {enc:TypeId × Value→H} {W:World} {spare:Nat→Bool} {held:Bool}
theorem Q0m {n:Int}(h:(Lit.int .u8 n).wf=true):∃ b:UInt8,n=(b.toNat:Int):=by
 have h2:0≤n∧n<256:=by
  simp[Lit.wf]at h
  have h3:IntKind.u8.min=0:=rfl
  have h4:IntKind.u8.max=255:=rfl
  omega
 refine⟨UInt8.ofNat n.toNat,?_⟩
 rw[UInt8.toNat_ofNat']
 omega
theorem c3:Tryz.prog.cellsOf 3=1:=by kernel_rfl
theorem c5:Tryz.prog.cellsOf 5=1:=by kernel_rfl
theorem c23:Tryz.prog.cellsOf 23=4:=by kernel_rfl
theorem c24:Tryz.prog.cellsOf 24=1:=by kernel_rfl
theorem v3p (n:Nat)(cs:List Value)(x:DataW H × List MemPlace)(h:DataW.trod enc Tryz.prog W 0 spare held n 23 cs=some x):∃ g:GeoV,cs=[.int .i64 g.w,.int .i64 g.s,.int .i64 g.k,.int .i64 g.m]:=by
 obtain⟨xs,m,_,rfl,hl,hlen,hf⟩:=DataW.trod_struct Tryz.underlying23 h
 rw[c23]at hl
 have h0:=hf 0 _ rfl
 have h1:=hf 1 _ rfl
 have h2:=hf 2 _ rfl
 have h3:=hf 3 _ rfl
 match xs,hlen with
 |[y0,y1,y2,y3],_=>
  match cs,hl with
  |[v0,v1,v2,v3],_=>
   simp[c3]at h0 h1 h2 h3
   obtain⟨a0,e0,_⟩:=DataW.trod_int Tryz.underlying3 h0
   obtain⟨a1,e1,_⟩:=DataW.trod_int Tryz.underlying3 h1
   obtain⟨a2,e2,_⟩:=DataW.trod_int Tryz.underlying3 h2
   obtain⟨a3,e3,_⟩:=DataW.trod_int Tryz.underlying3 h3
   simp at e0 e1 e2 e3
   exact⟨⟨a0,a1,a2,a3⟩,by rw[e0,e1,e2,e3]⟩
theorem u1d {v:Value}{d:DataW H}{ps:List MemPlace}{r:Reach}{b0:Nat}{ι:Nat→Option Nat}
 (hval:Value.okWide Tryz.prog W r b0 23 v) (h:DataW.Trod enc Tryz.prog W 0 spare held 23 v d ps):∃ g:GeoV,ARep W (·<W.heap.size) ι g.av v:=by
 obtain⟨cs,rfl,hsz⟩:=okWide_struct Tryz.underlying23 hval
 obtain⟨n,hn⟩:=h
 obtain⟨g,hcs⟩:=v3p n _ _ hn
 have:cs=[Value.int .i64 g.w,.int .i64 g.s,.int .i64 g.k,.int .i64 g.m].toArray:=by
  cases cs;simpa [Value.cells] using hcs
 subst this
 refine⟨g,.agg _ _ rfl fun i u hu=>?_⟩
 match i,hu with
 |0,hu=>cases hu;exact q8q _
 |1,hu=>cases hu;exact q8q _
 |2,hu=>cases hu;exact q8q _
 |3,hu=>cases hu;exact q8q _
 |i+4,hu=>cases hu
theorem u1e (n:Nat)(cs:List Value)(x:DataW H × List MemPlace)(hx:DataW.trod enc Tryz.prog W 0 spare held n 5 cs=some x):∃ b:UInt8,([u8 b]:List PV).length=1∧∀ (i:Nat) (u:PV),([u8 b]:List PV)[i]?=some u→∀ v:Value,cs[i]?=some v→PRep W (·<W.heap.size) u v:=by
 obtain⟨a,e,_,w⟩:=DataW.trod_int Tryz.underlying5 hx
 obtain⟨b,rfl⟩:=Q0m w
 refine⟨b,rfl,fun i u hu v hv=>?_⟩
 rw[e]at hv
 match i,hu,hv with
 |0,hu,hv=>simp at hu hv;subst hu;subst hv;exact u1c _ _
 |i+1,hu,hv=>simp at hu
end
end Go.Proofs.YtinfbclgkghgaaaGreat.AL
namespace Go.Proofs.YtinfbclgkghgaaaGreat.AL
open Go Go.RowKit Go.ChangeShapes Go.WideShapes Go.ChangeAt Go.Deep Go.Proofs
section
variable {H:Type} {enc:TypeId × Value→H} {W:World} {spare:Nat→Bool} {held:Bool}
theorem u1f (n:Nat)(cs:List Value)(x:DataW H × List MemPlace)(hx:DataW.trod enc Tryz.prog W 0 spare held n 24 cs=some x):∃ b:z6,([bP b]:List PV).length=1∧∀ (i:Nat) (u:PV),([bP b]:List PV)[i]?=some u→∀ v:Value,cs[i]?=some v→PRep W (·<W.heap.size) u v:=by
 obtain⟨l,v,hv,hp⟩:=w7x Tryz.underlying24 hx (fun b:UInt8=>[u8 b]) 1 c5 (by decide) u1e
 refine⟨l,rfl,fun i u hu w hw=>?_⟩
 rw[hv]at hw
 match i,hu,hw with
 |0,hu,hw=>simp at hu hw;subst hu;subst hw;exact hp
 |i+1,hu,hw=>simp at hu
theorem v3q {v:Value}{d:DataW H}{ps:List MemPlace}{r:Reach}{b0:Nat}{ι:Nat→Option Nat}
 (hval:Value.okWide Tryz.prog W r b0 37 v) (h:DataW.Trod enc Tryz.prog W 0 spare held 37 v d ps):∃ l:List z6,ARep W (·<W.heap.size) ι (.p (.sl 1 (z2 l))) v:=
 v3n Tryz.underlying37 hval h (fun b:z6=>[bP b]) 1 c24 (by decide) u1f
end
end Go.Proofs.YtinfbclgkghgaaaGreat.AL
namespace Go.Proofs.YtinfbclgkghgaaaGreat.AL
open Go Go.Proofs Go.Proofs.YtinfbclgkghgaaaGreat.AL.Crc
def Q0n (vol:Int)(g:GeoV)(m:Int)(k:Nat):Option Pc→z6
 |none=>U9 vol (q3p g m k).toNat
 |some p=>(p.sector vol g m).1
structure SlotsP (vol:Int) (g:GeoV) (A B:Nat→Option Pc) (cs:List Cell):Prop where
 a:∀ k:Nat,(k:Int)<g.w→cs[(q3p g 0 k).toNat]?=some (z1b (Q0n vol g 0 k (A k)))
 b:∀ k:Nat,(k:Int)<g.w→cs[(q3p g 1 k).toNat]?=some (z1b (Q0n vol g 1 k (B k)))
def Q0p (e:Int)(A:Nat→Option Pc):Prop:=∀ k p,A k=some p→p.may=true∧p.seq=(k:Int)∧p.epoch≤e
structure ChainE (vol:Int) (g:GeoV) (P:List Pc):Prop where
 may:∀ (i:Nat) (p:Pc),P[i]?=some p→p.may=true∧p.seq=(i:Int)∧p.chain=u1s vol g 0 P i
 nxt:∀ (i:Nat) (p q:Pc),P[i]?=some p→P[i+1]?=some q→p.epoch≤q.epoch∧(p.epoch=q.epoch→q.frm=p.frm)∧(p.epoch<q.epoch→q.frm=q.seq)
structure TellsE (A B:Nat→Option Pc) (P:List Pc):Prop where
 one:∀ (i:Nat) (p:Pc),P[i]?=some p→A i=some p∧∀ q,B i=some q→q=p∨q.epoch<p.epoch
 stop:∀ q,A P.length=some q∨B P.length=some q→∃ l,P.getLast?=some l∧q.epoch<l.epoch
structure TailP (T:List Pc):Prop where
 pre:T=[]∨∃ s,Q0k s∧T <+: s∧T.length<s.length
structure StateP (vol:Int) (g:GeoV) (e:Int) (A B:Nat→Option Pc) (Q:List (List Pc)) (T:List Pc) (cs:List Cell):Prop where
 slots:SlotsP vol g A B cs
 ma:Q0p e A
 mb:Q0p e B
 chain:ChainE vol g (Q.flatten++T)
 tells:TellsE A B (Q.flatten++T)
 len:((Q.flatten++T).length:Int)≤g.w
 segs:∀ s∈Q,Q0k s
 tail:TailP T
def u1t (A:Nat→Option Pc)(n0:Nat)(W:List Pc):Nat→Option Pc:=fun k=>if n0≤k then (match W[k - n0]? with|some p=>some p|none=>A k) else A k
def Q4f (vol:Int)(g:GeoV)(e:Int)(P0 W:List Pc):Prop:=∀ (i:Nat) (p:Pc),W[i]?=some p→p.may=true∧p.seq=((P0.length+i:Nat):Int)∧p.epoch=e∧p.frm=(P0.length:Int)∧p.chain=u1s vol g 0 (P0++W) (P0.length+i)
structure EndP (vol:Int) (g:GeoV) (e:Int) (E:Dev) (keep:List Bool) (b:Nat) (A B:Nat→Option Pc) (P0 W1 W2:List Pc):Prop where
 ok:E.Ok b
 clean:CleanP (E.crashed keep) g.secs b
 slots:SlotsP vol g (u1t A P0.length W1) (u1t B P0.length W2) (E.crashed keep).cells
 new:Q4f vol g e P0 W1
 half:W1=W2∨∃ p,W1=W2++[p]
 len:((P0.length+W1.length:Nat):Int)≤g.w
theorem EndP.mono {vol:Int}{g:GeoV}{e:Int}{E:Dev}{keep:List Bool}{b c:Nat}{A B:Nat→Option Pc}{P0 W1 W2:List Pc}(h:EndP vol g e E keep b A B P0 W1 W2)(hc:b≤c):EndP vol g e E keep c A B P0 W1 W2:=
 ⟨h.ok.mono hc,h.clean.mono hc,h.slots,h.new,h.half,h.len⟩
theorem StateP.still {vol:Int}{g:GeoV}{e e':Int}{A B:Nat→Option Pc}{Q:List (List Pc)}{T:List Pc}{cs0 cs:List Cell}(h:StateP vol g e A B Q T cs0)(he:e≤e')(hs:SlotsP vol g A B cs):StateP vol g e' A B Q T cs:=
 ⟨hs,fun k p hk=>by obtain⟨a,b,c⟩:=h.ma k p hk;exact⟨a,b,by omega⟩,fun k p hk=>by obtain⟨a,b,c⟩:=h.mb k p hk;exact⟨a,b,by omega⟩,h.chain,h.tells,h.len,h.segs,h.tail⟩
end Go.Proofs.YtinfbclgkghgaaaGreat.AL
namespace Go.Proofs.YtinfbclgkghgaaaGreat.AL
open Go Go.RowKit Go.ChangeShapes Go.WideShapes Go.ChangeAt Go.Deep Go.Proofs
section
variable {H:Type} {enc:TypeId × Value→H} {W:World} {spare:Nat→Bool} {held:Bool}
instance:Inhabited Flt:=⟨⟨0,0,0,0,0,0,0,0,0⟩⟩
def Flt.vals (f:Flt):List Value:=[.int .i64 f.kind,.int .i64 f.at_,.int .i64 f.off,.int .i64 f.n,.int .i64 f.to,.int .u8 (f.m0.toNat:Int),.int .u8 (f.m1.toNat:Int),.int .u8 (f.m2.toNat:Int),.int .u8 (f.m3.toNat:Int)]
theorem c4:Tryz.prog.cellsOf 4=1:=by kernel_rfl
end
end Go.Proofs.YtinfbclgkghgaaaGreat.AL
namespace Go.Proofs.YtinfbclgkghgaaaGreat.AL
open Go Go.Proofs Go.Proofs.YtinfbclgkghgaaaGreat
theorem Q4g:(mapsRowed Tryz.prog)=true:=by kernel_rfl
theorem Q4h:((Tryz.prog.stops==[]))=true:=by kernel_rfl
theorem Q4i:((Tryz.prog.stopKnobs==[]))=true:=by kernel_rfl
theorem Q0q:((Rows.ringTellsRow.plainKeys==Tryz.prog.plainKeys))=true:=by kernel_rfl
theorem Q0r:(Tryz.prog.stopsHeard)=true:=by kernel_rfl
theorem Q0s:(Tryz.prog.mayEnter)=true:=by kernel_rfl
theorem Q0t:((Rows.ringTellsRow.lifted==Tryz.prog.liftsFinal))=true:=by kernel_rfl
theorem Q0u:((Tryz.prog.make==some Rows.ringTellsRow.make))=true:=by kernel_rfl
end Go.Proofs.YtinfbclgkghgaaaGreat.AL
