/- A part of the proof. -/
import Derived.Test.YtinfbclgkghgaaaGreatSnapO
/- The layer 12 (snap): a stripe's shares. -/
namespace Go.Proofs.YtinfbclgkghgaaaGreat.AL
open Go Go.Proofs
def q1u (vol at_ no:Int)(i:Nat)(s:y7):y7:=match (U6 s).2==0&&(U6 s).1.kind==4&&(U6 s).1.vol==vol&&(U6 s).1.addr==at_+i&&(U6 s).1.seq==no&&((U6 s).1.body.length:Int)==228 with
 |true=>(U6 s).1.body
 |false=>[]
def q4n (vol at_ no:Int)(l:List y7):List y7:=(List.range l.length).map fun i=>q1u vol at_ no i (l.getD i [])
def J2 (l:List y7)(vol:Int)(g:GeoV)(area stripe no:Int):List y7 × Int:=match (V1 g area stripe).2 != 0||!V6 [vol,no]||!((l.length:Int)==g.k+g.m) with
 |true=>([],1)
 |false=>match (q8p (q4n vol (V1 g area stripe).1 no l) g.k.toNat g.m.toNat 228).2 != 0 with
  |true=>([],22)
  |false=>((q8p (q4n vol (V1 g area stripe).1 no l) g.k.toNat g.m.toNat 228).1,0)
def z1b (f:Nat→y7)(n k:Nat):List y7:=(List.range n).map fun i=>if i<k then f i else []
theorem q9m (f:Nat→y7)(n k:Nat):(z1b f n k).length=n:=by unfold z1b;rw[List.length_map,List.length_range]
theorem z2j {f:Nat→y7}{n k i:Nat}(h:i<n):(z1b f n k)[i]?=some (if i<k then f i else []):=by
 unfold z1b;rw[List.getElem?_map,List.getElem?_range h];rfl
theorem v6h {f:Nat→y7}{n k:Nat}(h:k<n):(y6 (z1b f n k)).set k [bP (f k)]=y6 (z1b f n (k+1)):=by
 refine List.ext_getElem? fun j=>?_
 rw[List.getElem?_set,Z7,q9m]
 by_cases hj:j<n
 ·by_cases e:k=j
  ·subst e
   rw[if_pos rfl,if_pos h,Z2 (z2j h),if_pos (by omega)]
  ·rw[if_neg e,Z2 (z2j hj),Z2 (z2j hj)]
   by_cases h2:j<k
   ·rw[if_pos h2,if_pos (by omega)]
   ·rw[if_neg h2,if_neg (by omega)]
 ·rw[if_neg (by omega),List.getElem?_eq_none (by rw[Z7,q9m];omega),List.getElem?_eq_none (by rw[Z7,q9m];omega)]
theorem v0s {f:Nat→y7}{n k:Nat}(h:f k=[]):z1b f n (k+1)=z1b f n k:=by
 unfold z1b
 refine List.map_congr_left fun i _=>?_
 by_cases e:i=k
 ·subst e;rw[if_pos (by omega),if_neg (by omega),h]
 ·by_cases h2:i<k
  ·rw[if_pos (by omega),if_pos h2]
  ·rw[if_neg (by omega),if_neg h2]
theorem v0t (f:Nat→y7)(n:Nat):y6 (z1b f n 0)=List.replicate n [bP []]:=by
 refine List.ext_getElem? fun j=>?_
 rw[List.getElem?_replicate]
 by_cases hj:j<n
 ·rw[Z2 (z2j hj),if_neg (by omega),if_pos hj]
 ·rw[List.getElem?_eq_none (by rw[Z7,q9m];omega),if_neg hj]
theorem v6i (f:Nat→y7)(n:Nat):z1b f n n=(List.range n).map f:=by
 unfold z1b
 refine List.map_congr_left fun i hi=>?_
 rw[if_pos (List.mem_range.mp hi)]
theorem x1y (vol at_ no:Int)(l:List y7):(q4n vol at_ no l).length=l.length:=by unfold q4n;rw[List.length_map,List.length_range]
theorem x1z (vol at_ no:Int)(i:Nat)(s:y7):(q1u vol at_ no i s).length=0∨(q1u vol at_ no i s).length=228:=by
 unfold q1u
 split
 ·rename_i h
  simp only[Bool.and_eq_true,beq_iff_eq]at h
  right;omega
 ·exact .inl rfl
set_option maxHeartbeats 4000000 in
set_option maxRecDepth 20000 in
theorem w1b (l:List y7)(vol:Int)(g:GeoV)(area stripe no:Int)(hk4:g.k≤4)(hm3:g.m≤3)(hll:l.length≤1000000)(hls:∀ s∈l,s.length≤1000000) :
 AF Tryz.prog y8u [.p (.sl 1 (y6 l)),i64 vol,g.av,i64 area,i64 stripe,i64 no] [] (Q0 (.tup [.p (.sl 1 (y6 (J2 l vol g area stripe no).1)),i64 (J2 l vol g area stripe no).2]) []):=by
 refine AF.mono (R:=fun r H'=>∃ z,z=J2 l vol g area stripe no∧r=.tup [.p (.sl 1 (y6 z.1)),i64 z.2]∧H'=[]) ?_ (by rintro r H' ⟨z,rfl,rfl,rfl⟩;exact⟨rfl,rfl⟩)
 have hcl:=Z7 l
 have wF:=q3f g area stripe
 have wW:=z3p [vol,no] (by show 2≤64;decide)
 have eZ:J2 l vol g area stripe no=match (V1 g area stripe).2 != 0||!V6 [vol,no]||!((l.length:Int)==g.k+g.m) with
  |true=>([],1)
  |false=>match (q8p (q4n vol (V1 g area stripe).1 no l) g.k.toNat g.m.toNat 228).2 != 0 with
   |true=>([],22)
   |false=>((q8p (q4n vol (V1 g area stripe).1 no l) g.k.toNat g.m.toNat 228).1,0):=rfl
 generalize J2 l vol g area stripe no=Z at eZ
 have hfe:(V1 g area stripe).2=0→X9 g area stripe:=fun h=>by
  by_cases hf:X9 g area stripe
  ·exact hf
  ·rw[q4g hf]at h;exact absurd h (by decide)
 generalize hF:V1 g area stripe=F at wF eZ hfe
 refine u9 hT y8v rfl rfl y8w rfl ?_
 refine y8 ⟨⟨112,[(0,.p (.sl 1 (y6 l))),(1,i64 vol),(3,i64 area),(4,i64 stripe),(5,i64 no),(8,.p (.box g.pv))]⟩,[]⟩ True (q7 hT ?_) (fun _=>?_)
 ·exact⟨Wk.trans (Q6 0 g.pv rfl rfl) (q9 [] [0,1,3,4,5,8] rfl),trivial⟩
 refine y8 ⟨⟨112,[(0,.p (.sl 1 (y6 l))),(1,i64 vol),(5,i64 no),(8,.p (.box g.pv)),(14,i64 F.1),(15,i64 F.2)]⟩,[]⟩ True (q7 hT ?_) (fun _=>?_)
 ·refine x8 (u5 wF _ rfl rfl) ?_
  exact⟨q9 [] [0,1,5,8,14,15] rfl,trivial⟩
 refine y8 ⟨⟨112,[(0,.p (.sl 1 (y6 l))),(1,i64 vol),(5,i64 no),(8,.p (.box g.pv)),(14,i64 F.1)]⟩,[]⟩ (F.2=0∧V6 [vol,no]=true∧(l.length:Int)=g.k+g.m) ?_ ?_
 ·refine w6 (fun st=>∃ v,(v=true→Z=([],1))∧(v=false→F.2=0∧V6 [vol,no]=true∧(l.length:Int)=IntKind.i64.wrap (g.k+g.m))∧st=⟨⟨112,[(0,.p (.sl 1 (y6 l))),(1,i64 vol),(5,i64 no),(8,.p (.box g.pv)),(14,i64 F.1),(47,bl v)]⟩,[]⟩) (X6 (fun k=>Nat.beq 5 k) hT ?_) ?_
  ·refine x7 (fun h=>?_) (fun h=>?_)
   ·have h:(F.2 != 0)=true:=h
    rw[h]at eZ
    exact⟨_,q9 [] [0,1,5,8,14,47] rfl,true,fun _=>eZ,fun e=>(by cases e),rfl⟩
   have h0:(F.2 != 0)=false:=h
   rw[h0]at eZ
   refine⟨⟨rfl,rfl⟩,?_⟩
   refine x8 (u5 wW _ rfl rfl) ?_
   refine x7 (fun h=>?_) (fun h=>?_)
   ·have h:(!V6 [vol,no])=true:=h
    rw[h]at eZ
    exact⟨_,q9 [] [0,1,5,8,14,47] rfl,true,fun _=>eZ,fun e=>(by cases e),rfl⟩
   have h1:(!V6 [vol,no])=false:=h
   rw[h1]at eZ
   have hok:=hfe (by simpa using h0)
   obtain⟨_,_,_,_,h5,h6,h7,h8⟩:=V0 (W9 hok.1)
   have hwr:IntKind.i64.wrap (g.k+g.m)=g.k+g.m:=x9 _ (by omega) (by omega)
   refine⟨_,q9 [] [0,1,5,8,14,47] rfl,(((y6 l).length:Int) != IntKind.i64.wrap (g.k+g.m)),fun e=>?_,fun e=>?_,rfl⟩
   ·rw[hcl,hwr]at e
    rw[eZ,show (!((l.length:Int)==g.k+g.m))=true from e];rfl
   ·rw[hcl,hwr]at e
    exact⟨by simpa using h0,by simpa using h1,by rw[hwr];simpa using e⟩
  ·rintro _ ⟨v,hv1,hv2,rfl⟩
   refine z6 (x7 (fun h=>?_) (fun h=>?_))
   ·refine q8 (q7 hT ?_)
    refine Q8 (q3y 12 1 rfl) ?_
    refine x6 ?_
    exact y9 [] ⟨([],1),(hv1 h).symm,rfl,rfl⟩ rfl
   ·obtain⟨c1,c2,c3⟩:=hv2 h
    have hok:=hfe c1
    obtain⟨_,_,_,_,h5,h6,h7,h8⟩:=V0 (W9 hok.1)
    rw[x9 _ (by omega) (by omega)]at c3
    exact z9 ⟨q9 [] [0,1,5,8,14] rfl,c1,c2,c3⟩
 rintro⟨c1,c2,c3⟩
 have hok:=hfe c1
 obtain⟨hg,a0,a1,s0,s1⟩:=hok
 obtain⟨h1,h2,h3,h4,h5,h6,h7,h8⟩:=V0 (W9 hg)
 rw[c1,c2,show ((l.length:Int)==g.k+g.m)=true from beq_iff_eq.mpr c3]at eZ
 obtain⟨A,hA⟩:∃ A,A=F.1:=⟨_,rfl⟩
 rw[← hA]at eZ
 have hAr:=w6q hg a0 a1 s0 s1
 have hAF:A=g.at_ area stripe:=by rw[hA,← hF,q0t ⟨hg,a0,a1,s0,s1⟩]
 rw[← hAF]at hAr
 rw[← hA]
 obtain⟨k,hk⟩:∃ n:Nat,g.k=n:=⟨g.k.toNat,by omega⟩
 obtain⟨m,hm⟩:∃ n:Nat,g.m=n:=⟨g.m.toNat,by omega⟩
 rw[hk,hm,Int.toNat_natCast,Int.toNat_natCast]at eZ
 have hlk:l.length=k+m:=by omega
 have eZ:Z=match (q8p (q4n vol A no l) k m 228).2 != 0 with
  |true=>([],22)
  |false=>((q8p (q4n vol A no l) k m 228).1,0):=eZ
 have hLl:=x1y vol A no l
 have hL:q4n vol A no l=z1b (fun i=>q1u vol A no i (l.getD i [])) l.length l.length:=by rw[v6i];rfl
 have hLs:∀ s∈q4n vol A no l,s.length=0∨s.length=228:=fun s hs=>by
  unfold q4n at hs
  rw[List.mem_map]at hs
  obtain⟨i,_,rfl⟩:=hs
  exact x1z _ _ _ _ _
 have wD:=v0f (q4n vol A no l) k m 228 (by omega) (by omega) (by omega) (by omega) (by decide) (by decide) (by omega) hLs (fun h=>u7z (by omega) h)
 generalize q8p (q4n vol A no l) k m 228=D at eZ wD
 generalize hLe:q4n vol A no l=LB at hL wD
 have hfd:∀ i s,l[i]?=some s→q1u vol A no i (l.getD i [])=q1u vol A no i s:=fun i s h=>by rw[List.getD_eq_getElem?_getD,h];rfl
 generalize hf:(fun i=>q1u vol A no i (l.getD i []))=f at hL
 have hfd:∀ i s,l[i]?=some s→f i=q1u vol A no i s:=fun i s h=>by rw[← hf];exact hfd i s h
 have hz:=v0t f l.length
 clear wF wW hfe hF c1 c2 c3 hLs hf hLe
 rw[← hk]at wD
 refine w6 (fun st=>∃ X n,X=y6 (z1b f l.length 0)∧n=l.length∧st=⟨⟨112,[(0,.p (.sl 1 (y6 l))),(1,i64 vol),(5,i64 no),(8,.p (.box g.pv)),(14,i64 A),(16,.msl 0 1 0 n)]⟩,[.row z5 1 X]⟩) (q7 hT ?_) ?_
 ·refine⟨⟨rfl,by omega,by show (((y6 l).length:Nat):Int)*24≤_;omega,by omega⟩,?_⟩
  refine⟨_,Wk.trans (v3g 0 (List.replicate (y6 l).length [bP []]) rfl (by simp) ?_) (q9 [0] [0,1,5,8,14,16] rfl),_,(y6 l).length,by rw[hz,hcl],hcl,rfl⟩
  intro j e2 he
  rw[List.getElem?_replicate]at he
  split at he
  ·rename_i hj
   obtain rfl:=Option.some.inj he
   refine⟨[.raw (.slice none 0 0)],by
    show (List.replicate _ _)[j]?=_
    rw[List.getElem?_replicate,if_pos (by simpa using hj)];rfl,rfl,fun i u2 hu=>?_⟩
   cases i with
   |zero=>obtain rfl:=Option.some.inj hu;exact⟨_,rfl,.inr ⟨1,rfl,rfl⟩⟩
   |succ i=>simp at hu
  ·cases he
 rintro _ ⟨X,n,hX,hn,rfl⟩
 refine w6 (fun st=>∃ X,X=y6 LB∧st=⟨⟨112,[(8,.p (.box g.pv)),(16,.msl 0 1 0 n)]⟩,[.row z5 1 X]⟩) (q8 (q7 hT ?_)) ?_
 ·refine z7 ?_
  refine w7 (fun c s=>∃ (j:Nat) (jj:Int) (X:_),c+j=n∧jj=j∧X=y6 (z1b f l.length j)∧s=⟨⟨112,[(1,i64 vol),(5,i64 no),(8,.p (.box g.pv)),(14,i64 A),(16,.msl 0 1 0 n),(51,.p (.sl 1 (y6 l))),(52,i64 (y6 l).length),(53,i64 jj)]⟩,[.row z5 1 X]⟩) n ⟨⟨112,_⟩,_⟩ (q9 [0] [1,5,8,14,16,51,52,53] rfl) ⟨0,0,X,by omega,rfl,hX,rfl⟩ ?_
  clear hX hz
  rintro c s ⟨j,jj,X,hcj,hjj,hX,rfl⟩
  refine q8 (q7 hT ?_)
  refine q8 (z6 (x7 (fun h=>?_) (fun h=>?_)))
  ·have h:=of_decide_eq_true (show decide (jj<(((y6 l).length:Nat):Int))=true from h)
   have hj:j<l.length:=by omega
   refine z9 ?_
   have hx:=List.getElem?_eq_getElem hj
   have hsl:=hls _ (List.getElem_mem hj)
   generalize l[j]=sec at hx hsl
   have hfj:=hfd j sec hx
   have hxp:(y6 l)[jj.toNat]?=some [bP sec]:=by rw[hjj,Int.toNat_natCast];exact Z2 hx
   have wO:=w3z sec hsl
   have hkf:q1u vol A no j sec=match (U6 sec).2==0&&(U6 sec).1.kind==4&&(U6 sec).1.vol==vol&&(U6 sec).1.addr==A+j&&(U6 sec).1.seq==no&&((U6 sec).1.body.length:Int)==228 with
    |true=>(U6 sec).1.body
    |false=>[]:=rfl
   rw[← hfj]at hkf
   generalize U6 sec=OB at wO hkf
   obtain⟨ob,oe⟩:=OB
   have hbl:=u6 ob.body
   have hXl:X.length=l.length:=by rw[hX,Z7,q9m]
   have hXg:X[0+jj.toNat]?=some [bP []]:=by
    rw[show 0+jj.toNat=j by omega,hX,Z2 (z2j hj),if_neg (by omega)]
   have hset:X.set (0+jj.toNat) [bP (f j)]=y6 (z1b f l.length (j+1)):=by
    rw[show 0+jj.toNat=j by omega,hX];exact v6h hj
   have hskip:f j=[]→X=y6 (z1b f l.length (j+1)):=fun e=>by rw[v0s e,hX]
   have hwr:IntKind.i64.wrap (A+jj)=A+j:=by rw[x9 _ (by omega) (by omega),hjj]
   refine w6 (fun st=>∃ X,X=y6 (z1b f l.length (j+1))∧st=⟨⟨112,[(1,i64 vol),(5,i64 no),(8,.p (.box g.pv)),(14,i64 A),(16,.msl 0 1 0 n),(51,.p (.sl 1 (y6 l))),(52,i64 (y6 l).length),(53,i64 jj)]⟩,[.row z5 1 X]⟩) (z7 ?_) ?_
   ·refine y8 ⟨⟨112,[(1,i64 vol),(5,i64 no),(8,.p (.box g.pv)),(14,i64 A),(16,.msl 0 1 0 n),(17,i64 jj),(18,bA sec),(51,.p (.sl 1 (y6 l))),(52,i64 (y6 l).length),(53,i64 jj)]⟩,[.row z5 1 X]⟩ True (q7 hT ?_) (fun _=>?_)
    ·refine⟨by omega,u7 hxp ?_⟩
     exact⟨q9 [0] [1,5,8,14,16,17,18,51,52,53] rfl,trivial⟩
    refine y8 ⟨⟨112,[(1,i64 vol),(5,i64 no),(8,.p (.box g.pv)),(14,i64 A),(16,.msl 0 1 0 n),(17,i64 jj),(19,.p (.box ob.pv)),(20,i64 oe),(51,.p (.sl 1 (y6 l))),(52,i64 (y6 l).length),(53,i64 jj)]⟩,[.row z5 1 X]⟩ True (q7 hT ?_) (fun _=>?_)
    ·refine x8 (u5 wO _ rfl rfl) ?_
     exact⟨Wk.trans (Q6 1 ob.pv rfl rfl) (q9 [0] [1,5,8,14,16,17,19,20,51,52,53] rfl),trivial⟩
    refine w6 (fun st=>∃ v,v=(oe==0&&ob.kind==4&&ob.vol==vol&&ob.addr==A+j&&ob.seq==no&&(ob.body.length:Int)==228)∧st=⟨⟨112,[(1,i64 vol),(5,i64 no),(8,.p (.box g.pv)),(14,i64 A),(16,.msl 0 1 0 n),(17,i64 jj),(19,.p (.box ob.pv)),(51,.p (.sl 1 (y6 l))),(52,i64 (y6 l).length),(53,i64 jj),(95,bl v)]⟩,[.row z5 1 X]⟩) (q7 hT ?_) ?_
    ·rw[← hwr,← hbl]
     refine x7 (fun h=>?_) (fun h=>?_)
     ·rw[show (oe==0)=true from h]
      refine x7 (fun h=>?_) (fun h=>?_)
      ·rw[show (ob.kind==4)=true from h]
       refine x7 (fun h=>?_) (fun h=>?_)
       ·rw[show (ob.vol==vol)=true from h]
        refine x7 (fun h=>?_) (fun h=>?_)
        ·rw[show (ob.addr==IntKind.i64.wrap (A+jj))=true from h]
         refine x7 (fun h=>?_) (fun h=>?_)
         ·rw[show (ob.seq==no)=true from h]
          exact⟨_,q9 [0] [1,5,8,14,16,17,19,51,52,53,95] rfl,_,rfl,rfl⟩
         ·rw[show (ob.seq==no)=false from h]
          exact⟨_,q9 [0] [1,5,8,14,16,17,19,51,52,53,95] rfl,_,rfl,rfl⟩
        ·rw[show (ob.addr==IntKind.i64.wrap (A+jj))=false from h]
         exact⟨_,q9 [0] [1,5,8,14,16,17,19,51,52,53,95] rfl,_,rfl,rfl⟩
       ·rw[show (ob.vol==vol)=false from h]
        exact⟨_,q9 [0] [1,5,8,14,16,17,19,51,52,53,95] rfl,_,rfl,rfl⟩
      ·rw[show (ob.kind==4)=false from h]
       exact⟨_,q9 [0] [1,5,8,14,16,17,19,51,52,53,95] rfl,_,rfl,rfl⟩
     ·rw[show (oe==0)=false from h]
      exact⟨_,q9 [0] [1,5,8,14,16,17,19,51,52,53,95] rfl,_,rfl,rfl⟩
    rintro _ ⟨v,hv,rfl⟩
    have hkf:f j=match (generalizing:=false) v with|true=>ob.body|false=>[]:=by rw[hv];exact hkf
    clear hv
    refine z6 (x7 (fun h=>?_) (fun h=>?_))
    ·have h:v=true:=h
     rw[h]at hkf
     rw[show f j=ob.body from hkf]at hset
     refine q7 hT ?_
     refine⟨⟨by omega,by omega⟩,?_⟩
     refine u7 hXg ?_
     exact⟨_,q9 [0] [1,5,8,14,16,51,52,53] rfl,_,hset,rfl⟩
    ·have h:v=false:=h
     rw[h]at hkf
     exact z9 ⟨_,q9 [0] [1,5,8,14,16,51,52,53] rfl,X,hskip hkf,rfl⟩
   ·rintro _ ⟨X,rfl,rfl⟩
    refine q7 hT ?_
    exact⟨c - 1,by omega,_,q9 [0] [1,5,8,14,16,51,52,53] rfl,j+1,IntKind.i64.wrap (jj+1),_,by omega,by rw[x9 _ (by omega) (by omega)];omega,rfl,rfl⟩
  ·have h:=of_decide_eq_false (show decide (jj<(((y6 l).length:Nat):Int))=false from h)
   rw[show j=l.length by omega,← hL]at hX
   refine u0 ?_
   exact⟨_,q9 [0] [8,16] rfl,X,hX,rfl⟩
 rintro _ ⟨X,rfl,rfl⟩
 have hLc:=Z7 LB
 have hLl2:LB.length=n:=by rw[hL,q9m,hn]
 refine Q8 (q0s 16 0 n rfl (by omega) rfl rfl) ?_
 refine y8 ⟨⟨112,[(15,i64 D.2),(21,.p (.sl 1 (y6 D.1)))]⟩,[]⟩ True (q7 hT ?_) (fun _=>?_)
 ·refine x8 (u5 wD _ rfl rfl) ?_
  exact⟨q9 [] [15,21] rfl,trivial⟩
 refine q8 (q8 (q7 hT ?_))
 refine z6 (x7 (fun h=>?_) (fun h=>?_))
 ·have h:(D.2 != 0)=true:=h
  rw[h]at eZ
  refine q8 (q7 hT ?_)
  refine Q8 (q3y 12 1 rfl) ?_
  refine x6 ?_
  exact y9 [] ⟨([],22),eZ.symm,rfl,rfl⟩ rfl
 ·have h:(D.2 != 0)=false:=h
  rw[h]at eZ
  refine z9 ?_
  refine q8 (q7 hT ?_)
  refine x6 ?_
  exact y9 [] ⟨(D.1,0),eZ.symm,rfl,rfl⟩ rfl
end Go.Proofs.YtinfbclgkghgaaaGreat.AL
/- The layer 12 (snap): a snapshot is written. Plain: what is read. -/
namespace Go.Proofs.YtinfbclgkghgaaaGreat.AL
open Go Go.Proofs
def Dev.snapWrite (D:Dev)(vol:Int)(g:GeoV)(area epoch no:Int)(b:y7):Int × Dev:=match (putsB vol g area epoch no b).2 != 0 with
 |true=>((putsB vol g area epoch no b).2,D)
 |false=>D.all9 (putsB vol g area epoch no b).1
theorem v0u {vol:Int}{g:GeoV}{area epoch no:Int}{b:y7}(hk4:g.k≤4)(hm3:g.m≤3):(putsB vol g area epoch no b).1.length≤224:=by
 unfold putsB
 split
 ·exact Nat.zero_le _
 ·rename_i h
  split
  ·exact Nat.zero_le _
  ·have hf:X9 g area 0:=by
    by_cases hf:X9 g area 0
    ·exact hf
    ·rw[q4g hf]at h;exact absurd h (by simp)
   obtain⟨h1,h2,h3,h4,h5,h6,h7,h8⟩:=V0 (W9 hf.1)
   show (q2x _ _ _ _ _ _ _ _ _).length≤_
   rw[q2k]
   exact Nat.le_trans (Nat.mul_le_mul (show g.s.toNat≤32 by omega) (show g.k.toNat+g.m.toNat≤7 by omega)) (by decide)
set_option maxRecDepth 20000 in
theorem q4z (D:Dev)(vol:Int)(g:GeoV)(area epoch no:Int)(b:y7)(hk4:g.k≤4)(hm3:g.m≤3)(hb:b.length≤1000000)(n:Nat)(hD:D.Ok n)(hn:n+1000<1000000) :
 AFm Tryz.prog 1 z6b [.ref 0 0,i64 vol,g.av,i64 area,i64 epoch,i64 no,bA b] (Z5 D) (Q0 (i64 (D.snapWrite vol g area epoch no b).1) (Z5 (D.snapWrite vol g area epoch no b).2)):=by
 refine AFm.mono (R:=fun r H'=>∃ z,z=D.snapWrite vol g area epoch no b∧r=i64 z.1∧H'=Z5 z.2) ?_ (by rintro r H' ⟨z,rfl,rfl,rfl⟩;exact⟨rfl,rfl⟩)
 have wP:=v0r vol g area epoch no b hk4 hm3 hb
 have eZ:D.snapWrite vol g area epoch no b=match (putsB vol g area epoch no b).2 != 0 with
  |true=>((putsB vol g area epoch no b).2,D)
  |false=>D.all9 (putsB vol g area epoch no b).1:=rfl
 have hlen:=v0u (vol:=vol) (g:=g) (area:=area) (epoch:=epoch) (no:=no) (b:=b) hk4 hm3
 generalize D.snapWrite vol g area epoch no b=Z at eZ
 generalize putsB vol g area epoch no b=F at wP eZ hlen
 refine Q9 1 hT x4d rfl rfl x4e rfl rfl ?_
 refine q8 (q7 hT ?_)
 refine Q8 (Q6 3 g.pv rfl rfl) ?_
 refine y8 ⟨⟨33,[(0,.ref 0 0),(15,.p (.sl 2 (px F.1))),(16,i64 F.2)]⟩,Z5 D⟩ True (q7 hT ?_) (fun _=>?_)
 ·refine x8 (u5 wP _ rfl rfl) ?_
  exact⟨q9 [0,1,2] [0,15,16] rfl,trivial⟩
 refine q8 (q8 (q7 hT ?_))
 refine z6 (x7 (fun h=>?_) (fun h=>?_))
 ·have h:(F.2 != 0)=true:=h
  rw[h]at eZ
  refine q8 (q7 hT ?_)
  refine x6 ?_
  exact y9 [0,1,2] ⟨_,eZ.symm,rfl,rfl⟩ rfl
 ·have h:(F.2 != 0)=false:=h
  rw[h]at eZ
  refine z9 ?_
  have wA:=v6d D F.1 n hD (by omega)
  refine q8 (q7 hT ?_)
  refine x8 (Q1 [0,1,2] wA rfl rfl rfl) ?_
  refine x6 ?_
  exact y9 [0,3,4] ⟨_,eZ.symm,rfl,rfl⟩ rfl
theorem v0v {S:List y7}{k m c:Nat}(_hkm:k+m≤256)(hl:S.length=k+m)(hS:∀ s∈S,s.length=0∨s.length=c)(hg:(X5 S k (k+m)).length=k):(q5s S k m c).length=k∧∀ s∈q5s S k m c,s.length=c:=by
 have hbl:=x5p (S:=S) (m:=m) hg
 have hil:(y0f (byB S k m)).length=k:=(y7j _).trans hbl
 have hOl:(ofB S k m).length=k:=by unfold ofB;rw[List.length_map,hg]
 have hOr:∀ s∈ofB S k m,s.length=c:=fun s hs=>by
  unfold ofB at hs
  rw[List.mem_map]at hs
  obtain⟨i,hi,rfl⟩:=hs
  obtain⟨hi2,hi3⟩:=q3p S k (k+m) i hi
  have hm2:S.getD i []∈S:=by
   rw[List.getD_eq_getElem?_getD,List.getElem?_eq_getElem (show i<S.length by omega)]
   exact List.getElem_mem _
  have:=hS _ hm2
  omega
 refine⟨by unfold q5s;rw[List.length_map,hil],fun s hs=>?_⟩
 unfold q5s at hs
 rw[List.mem_map]at hs
 obtain⟨a,_,rfl⟩:=hs
 exact Z4 a hOr (by omega)
theorem v6j {S:List y7}{k m c:Nat}(hkm:k+m≤256)(hl:S.length=k+m)(hS:∀ s∈S,s.length=0∨s.length=c)(h:(q8p S k m c).2=0):(q8p S k m c).1.length=k+m∧∀ s∈(q8p S k m c).1.take k,s.length=c:=by
 unfold q8p at h ⊢
 cases e:decide ((X5 S k (k+m)).length<k) with
 |true=>rw[e]at h;exact absurd (show (9:Int)=0 from h) (by decide)
 |false=>
  have e:=of_decide_eq_false e
  have h2:=(q9i S k (k+m)).2
  obtain⟨a,b⟩:=v0v hkm hl hS (show (X5 S k (k+m)).length=k by omega)
  refine⟨by show (q5s S k m c++q7f (q5s S k m c) m c).length=_;rw[List.length_append,z2h,a],fun s hs=>b s ?_⟩
  have hs:s∈(q5s S k m c++q7f (q5s S k m c) m c).take k:=hs
  rwa [List.take_left' a]at hs
theorem y1f {l:List y7}{vol:Int}{g:GeoV}{area stripe no:Int}(h:(J2 l vol g area stripe no).2=0):(J2 l vol g area stripe no).1.length=g.k.toNat+g.m.toNat∧∀ s∈(J2 l vol g area stripe no).1.take g.k.toNat,s.length=228:=by
 unfold J2 at h ⊢
 cases e:(V1 g area stripe).2 != 0||!V6 [vol,no]||!((l.length:Int)==g.k+g.m) with
 |true=>rw[e]at h;exact absurd (show (1:Int)=0 from h) (by decide)
 |false=>
  rw[e]at h
  simp only[Bool.or_eq_false_iff,Bool.not_eq_false']at e
  have hf:X9 g area stripe:=by
   by_cases hf:X9 g area stripe
   ·exact hf
   ·rw[q4g hf]at e;exact absurd e.1.1 (by decide)
  obtain⟨h1,h2,h3,h4,h5,h6,h7,h8⟩:=V0 (W9 hf.1)
  have hl:l.length=g.k.toNat+g.m.toNat:=by
   have:=eq_of_beq e.2
   omega
  cases e2:(q8p (q4n vol (V1 g area stripe).1 no l) g.k.toNat g.m.toNat 228).2 != 0 with
  |true=>rw[e2]at h;exact absurd (show (22:Int)=0 from h) (by decide)
  |false=>
   refine v6j (by omega) (by rw[x1y];exact hl) (fun s hs=>?_) (by simpa using e2)
   unfold q4n at hs
   rw[List.mem_map]at hs
   obtain⟨i,_,rfl⟩:=hs
   exact x1z _ _ _ _ _
def Dev.reads (D:Dev)(A:Int):Nat→List y7 × Dev
 |0=>([],D)
 |i+1=>((D.reads A i).1++[((D.reads A i).2.read (A+i)).1.1],((D.reads A i).2.read (A+i)).2)
theorem z2k {D:Dev}{b:Nat}(h:D.Ok b)(A:Int):∀ k,(D.reads A k).2.Ok b
 |0=>h
 |k+1=>(z2k h A k).read _
theorem z3q (D:Dev)(A:Int):∀ k,(D.reads A k).1.length=k
 |0=>rfl
 |k+1=>by show ((D.reads A k).1++[_]).length=_;rw[List.length_append,z3q D A k];rfl
theorem y1g {D:Dev}{b:Nat}(h:D.Ok b)(A:Int):∀ k,∀ s∈(D.reads A k).1,s.length≤256
 |0,s,hs=>by simp[Dev.reads]at hs
 |k+1,s,hs=>by
  have hs:s∈(D.reads A k).1++[((D.reads A k).2.read (A+k)).1.1]:=hs
  rw[List.mem_append,List.mem_singleton]at hs
  rcases hs with hs|rfl
  ·exact y1g h A k s hs
  ·exact v0n (z2k h A k) _
abbrev y7x:Type:=y7 × Int × Dev
def q2b (vol:Int)(g:GeoV)(area no:Int)(s:Nat)(X:y7x):y7x:=match X.2.1 != 0 with
 |true=>X
 |false=>match (J2 (X.2.2.reads (g.at_ area s) (g.k.toNat+g.m.toNat)).1 vol g area s no).2 != 0 with
  |true=>([],(J2 (X.2.2.reads (g.at_ area s) (g.k.toNat+g.m.toNat)).1 vol g area s no).2,(X.2.2.reads (g.at_ area s) (g.k.toNat+g.m.toNat)).2)
  |false=>(X.1++((J2 (X.2.2.reads (g.at_ area s) (g.k.toNat+g.m.toNat)).1 vol g area s no).1.take g.k.toNat).flatten,0,(X.2.2.reads (g.at_ area s) (g.k.toNat+g.m.toNat)).2)
def Dev.snapN (D:Dev)(vol:Int)(g:GeoV)(area no:Int):Nat→y7x
 |0=>([],0,D)
 |s+1=>q2b vol g area no s (D.snapN vol g area no s)
def Dev.snapRead (D:Dev)(vol:Int)(g:GeoV)(area no long:Int):(y7 × Int) × Dev:=match (V1 g area 0).2 != 0||!V6 [vol,no]||(decide (long<0)||decide (long > g.room)) with
 |true=>(([],1),D)
 |false=>match D.dead with
  |true=>(([],21),D)
  |false=>match (D.snapN vol g area no g.s.toNat).2.1 != 0 with
   |true=>(([],(D.snapN vol g area no g.s.toNat).2.1),(D.snapN vol g area no g.s.toNat).2.2)
   |false=>(((D.snapN vol g area no g.s.toNat).1.take long.toNat,0),(D.snapN vol g area no g.s.toNat).2.2)
theorem x2a {D:Dev}{vol:Int}{g:GeoV}{area no:Int}{s:Nat}(h:((D.snapN vol g area no s).2.1 != 0)=true):∀ j,D.snapN vol g area no (s+j)=D.snapN vol g area no s
 |0=>rfl
 |j+1=>by
  show q2b vol g area no (s+j) (D.snapN vol g area no (s+j))=_
  rw[x2a h j]
  unfold q2b
  rw[h]
theorem w1c {D:Dev}{b:Nat}(h:D.Ok b)(vol:Int)(g:GeoV)(area no:Int):∀ s,(D.snapN vol g area no s).2.2.Ok b
 |0=>h
 |s+1=>by
  have ih:=w1c h vol g area no s
  show (q2b vol g area no s _).2.2.Ok b
  unfold q2b
  split
  ·exact ih
  ·split
   ·exact z2k ih _ _
   ·exact z2k ih _ _
theorem w1d {n:Nat}:∀ {l:List y7},(∀ s∈l,s.length=n)→l.flatten.length=l.length*n
 |[],_=>by simp
 |s :: r,h=>by
  rw[List.flatten_cons,List.length_append,h s (List.mem_cons_self ..),w1d (n:=n) (l:=r) fun x hx=>h x (List.mem_cons_of_mem _ hx),List.length_cons,Nat.succ_mul]
  omega
theorem y0i {D:Dev}{vol:Int}{g:GeoV}{area no:Int}:∀ s,(D.snapN vol g area no s).2.1=0→(D.snapN vol g area no s).1.length=s*g.k.toNat*228
 |0,_=>by simp[Dev.snapN]
 |s+1,h=>by
  have h:(q2b vol g area no s (D.snapN vol g area no s)).2.1=0:=h
  show (q2b vol g area no s _).1.length=_
  unfold q2b at h ⊢
  cases e:(D.snapN vol g area no s).2.1 != 0 with
  |true=>
   rw[e]at h
   have h:(D.snapN vol g area no s).2.1=0:=h
   rw[h]at e
   exact absurd e (by decide)
  |false=>
   rw[e]at h
   have ih:=y0i s (by simpa using e)
   cases e2:(J2 ((D.snapN vol g area no s).2.2.reads (g.at_ area s) (g.k.toNat+g.m.toNat)).1 vol g area s no).2 != 0 with
   |true=>
    rw[e2]at h
    have h:(J2 ((D.snapN vol g area no s).2.2.reads (g.at_ area s) (g.k.toNat+g.m.toNat)).1 vol g area s no).2=0:=h
    rw[h]at e2
    exact absurd e2 (by decide)
   |false=>
    obtain⟨a,b⟩:=y1f (by simpa using e2)
    show ((D.snapN vol g area no s).1++List.flatten _).length=_
    rw[List.length_append,ih,w1d b,List.length_take,a,Nat.min_eq_left (by omega),Nat.add_mul,Nat.add_mul,Nat.one_mul]
end Go.Proofs.YtinfbclgkghgaaaGreat.AL
namespace Go.Proofs.YtinfbclgkghgaaaGreat.AL
open Go Go.Proofs
set_option maxHeartbeats 4000000 in
set_option maxRecDepth 20000 in
theorem q5a (D:Dev)(vol:Int)(g:GeoV)(area no long:Int)(hk4:g.k≤4)(hm3:g.m≤3)(b:Nat)(hD:D.Ok b)(hb:b≤1000000) :
 AFm Tryz.prog 3 y0y [.ref 0 0,i64 vol,g.av,i64 area,i64 no,i64 long] (Z5 D) (Q0 (.tup [bA (D.snapRead vol g area no long).1.1,i64 (D.snapRead vol g area no long).1.2]) (Z5 (D.snapRead vol g area no long).2)):=by
 refine AFm.mono (R:=fun r H'=>∃ z:(y7 × Int) × Dev,z=D.snapRead vol g area no long∧r=.tup [bA z.1.1,i64 z.1.2]∧H'=Z5 z.2) ?_ (by rintro r H' ⟨z,rfl,rfl,rfl⟩;exact⟨rfl,rfl⟩)
 have wF:=q3f g area 0
 have wFs:=fun s=>q3f g area s
 have wW:=z3p [vol,no] (by show 2≤64;decide)
 have wR:=z7s g
 have eZ:D.snapRead vol g area no long=match (V1 g area 0).2 != 0||!V6 [vol,no]||(decide (long<0)||decide (long > g.room)) with
  |true=>(([],1),D)
  |false=>match D.dead with
   |true=>(([],21),D)
   |false=>match (D.snapN vol g area no g.s.toNat).2.1 != 0 with
    |true=>(([],(D.snapN vol g area no g.s.toNat).2.1),(D.snapN vol g area no g.s.toNat).2.2)
    |false=>(((D.snapN vol g area no g.s.toNat).1.take long.toNat,0),(D.snapN vol g area no g.s.toNat).2.2):=rfl
 generalize D.snapRead vol g area no long=Z at eZ
 have hfe:(V1 g area 0).2=0→X9 g area 0:=fun h=>by
  by_cases hf:X9 g area 0
  ·exact hf
  ·rw[q4g hf]at h;exact absurd h (by decide)
 generalize hF:V1 g area 0=F at wF eZ hfe
 refine Q9 3 hT y0z rfl rfl y1a rfl rfl ?_
 refine y8 ⟨⟨114,[(0,.ref 0 0),(1,i64 vol),(3,i64 area),(4,i64 no),(5,i64 long),(8,.p (.box g.pv))]⟩,Z5 D⟩ True (q7 hT ?_) (fun _=>?_)
 ·exact⟨Wk.trans (Q6 3 g.pv rfl rfl) (q9 [0,1,2] [0,1,3,4,5,8] rfl),trivial⟩
 refine y8 ⟨⟨114,[(0,.ref 0 0),(1,i64 vol),(3,i64 area),(4,i64 no),(5,i64 long),(8,.p (.box g.pv))]⟩,Z5 D⟩ (X9 g area 0∧¬ long<0∧¬ long > g.room∧D.dead=false∧V6 [vol,no]=true) (q8 (q7 hT ?_)) ?_
 ·refine x8 (u5 wF _ rfl rfl) ?_
  refine z7 ?_
  refine w6 (fun st=>∃ v,v=(F.2 != 0||!V6 [vol,no]||(decide (long<0)||decide (long > g.room)))∧st=⟨⟨114,[(0,.ref 0 0),(1,i64 vol),(3,i64 area),(4,i64 no),(5,i64 long),(8,.p (.box g.pv)),(32,bl v)]⟩,Z5 D⟩) (q8 (q7 hT ?_)) ?_
  ·refine z6 (x7 (fun h=>?_) (fun h=>?_))
   ·refine z9 ?_
    exact⟨_,q9 [0,1,2] [0,1,3,4,5,8,32] rfl,(F.2 != 0),by rw[show (F.2 != 0)=true from h];rfl,rfl⟩
   rw[show (F.2 != 0)=false from h]
   refine q8 (X6 (fun k=>Nat.beq 2 k) hT ?_)
   refine⟨⟨rfl,rfl⟩,?_⟩
   refine x8 (u5 wW _ rfl rfl) ?_
   refine z6 (x7 (fun h=>?_) (fun h=>?_))
   ·refine z9 ?_
    exact⟨_,q9 [0,1,2] [0,1,3,4,5,8,32] rfl,(!V6 [vol,no]),by rw[show (!V6 [vol,no])=true from h];rfl,rfl⟩
   rw[show (!V6 [vol,no])=false from h]
   refine q8 (q7 hT ?_)
   refine z6 (x7 (fun h=>?_) (fun h=>?_))
   ·refine z9 ?_
    exact⟨_,q9 [0,1,2] [0,1,3,4,5,8,32] rfl,decide (long<0),by rw[show decide (long<0)=true from h];rfl,rfl⟩
   rw[show decide (long<0)=false from h]
   refine q7 hT ?_
   refine x8 (u5 wR _ rfl rfl) ?_
   exact⟨_,q9 [0,1,2] [0,1,3,4,5,8,32] rfl,decide (long > g.room),rfl,rfl⟩
  rintro _ ⟨v,hv,rfl⟩
  rw[← hv]at eZ
  refine z6 (x7 (fun h=>?_) (fun h=>?_))
  ·have h:v=true:=h
   rw[h]at eZ
   refine q8 (q7 hT ?_)
   refine Q8 (q3y 12 1 rfl) ?_
   refine x6 ?_
   exact y9 [0,1,2] ⟨(([],1),D),eZ.symm,rfl,rfl⟩ rfl
  ·have h:v=false:=h
   rw[h]at eZ hv
   have hv:=hv.symm
   simp only[Bool.or_eq_false_iff,Bool.not_eq_false',decide_eq_false_iff_not]at hv
   refine q8 (q7 hT ?_)
   refine x8 (Q1 [0,1,2] (z3g D) rfl rfl rfl) ?_
   refine z6 (x7 (fun h=>?_) (fun h=>?_))
   ·rw[show D.dead=true from h]at eZ
    refine q8 (q7 hT ?_)
    refine Q8 (q3y 12 1 rfl) ?_
    refine x6 ?_
    exact y9 [0,1,2] ⟨(([],21),D),eZ.symm,rfl,rfl⟩ rfl
   ·exact z9 ⟨q9 [0,1,2] [0,1,3,4,5,8] rfl,hfe (by simpa using hv.1.1),hv.2.1,hv.2.2,h,hv.1.2⟩
 rintro⟨hok,hl0,hl1,hdead,hw⟩
 have hF0:F.2=0:=by rw[← hF,q0t hok]
 rw[hF0,hw,decide_eq_false hl0,decide_eq_false hl1,hdead]at eZ
 have eZ:Z=match (D.snapN vol g area no g.s.toNat).2.1 != 0 with
  |true=>(([],(D.snapN vol g area no g.s.toNat).2.1),(D.snapN vol g area no g.s.toNat).2.2)
  |false=>(((D.snapN vol g area no g.s.toNat).1.take long.toNat,0),(D.snapN vol g area no g.s.toNat).2.2):=eZ
 obtain⟨hg,a0,a1,_,_⟩:=hok
 obtain⟨h1,h2,h3,h4,h5,h6,h7,h8⟩:=V0 (W9 hg)
 obtain⟨S,hS⟩:∃ n:Nat,g.s=n:=⟨g.s.toNat,by omega⟩
 obtain⟨k,hk⟩:∃ n:Nat,g.k=n:=⟨g.k.toNat,by omega⟩
 obtain⟨m,hm⟩:∃ n:Nat,g.m=n:=⟨g.m.toNat,by omega⟩
 have hroom:g.room=((S*k*228:Nat):Int):=by unfold GeoV.room;rw[hg,hS,hk];show (S:Int)*k*228=_;simp
 rw[hroom]at hl1
 have hSk:S*k≤32*4:=Nat.mul_le_mul (by omega) (by omega)
 have hkn:g.k.toNat=k:=by omega
 have hmn:g.m.toNat=m:=by omega
 rw[show g.s.toNat=S by omega]at eZ
 clear wF wW wR hfe hF0 hF hdead
 refine y8 ⟨⟨114,[(0,.ref 0 0),(1,i64 vol),(3,i64 area),(4,i64 no),(5,i64 long),(8,.p (.box g.pv)),(16,.msl 3 1 0 0)]⟩,Z5 D++[.row z4 1 (bx [])]⟩ True (q7 hT ?_) (fun _=>?_)
 ·exact⟨Wk.trans (J9 z4 1) (Wk.trans (q9u 16 3 1 0 rfl) (q9 [0,1,2,3] [0,1,3,4,5,8,16] rfl)),trivial⟩
 refine w6 (fun st=>∃ out E,D.snapN vol g area no S=(out,0,E)∧st=⟨⟨114,[(5,i64 long),(16,.msl 3 1 0 (bx out).length)]⟩,Z5 E++[.row z4 1 (bx out)]⟩) (q8 (q7 hT ?_)) ?_
 ·refine z7 ?_
  refine w7 (fun c st=>∃ (s:Nat) (js Sv:Int) (out:y7) (E:Dev),c+s=S∧js=s∧Sv=S∧D.snapN vol g area no s=(out,0,E)∧st=⟨⟨114,[(0,.ref 0 0),(1,i64 vol),(3,i64 area),(4,i64 no),(5,i64 long),(8,.p (.box g.pv)),(16,.msl 3 1 0 (bx out).length),(50,i64 Sv),(51,i64 js)]⟩,Z5 E++[.row z4 1 (bx out)]⟩) S ⟨⟨114,_⟩,_⟩ (q9 [0,1,2,3] [0,1,3,4,5,8,16,50,51] rfl) ⟨0,0,g.s,[],D,by omega,rfl,hS,rfl,rfl⟩ ?_
  rintro c st ⟨s,js,Sv,out,E,hcs,hjs,hSv,hN,rfl⟩
  refine q8 (q7 hT ?_)
  refine q8 (z6 (x7 (fun h=>?_) (fun h=>?_)))
  ·have h:=of_decide_eq_true (show decide (js<Sv)=true from h)
   have hsS:s<S:=by omega
   refine z9 ?_
   have hEo:E.Ok b:=by have:=w1c hD vol g area no s;rwa [hN]at this
   have hol:out.length=s*k*228:=by have:=y0i (D:=D) (vol:=vol) (g:=g) (area:=area) (no:=no) s (by rw[hN]);rwa [hN,hkn]at this
   have hsk:s*k≤32*4:=Nat.mul_le_mul (by omega) (by omega)
   have wF:=wFs js
   have hfo:X9 g area js:=⟨hg,a0,a1,by omega,by omega⟩
   rw[q0t hfo]at wF
   have hAr:=w6q hg a0 a1 (show 0≤js by omega) (by omega)
   have hNs:D.snapN vol g area no (s+1)=q2b vol g area no s (out,0,E):=by rw[← hN];rfl
   have hstep:q2b vol g area no s (out,0,E)=match (J2 (E.reads (g.at_ area s) (g.k.toNat+g.m.toNat)).1 vol g area s no).2 != 0 with
    |true=>([],(J2 (E.reads (g.at_ area s) (g.k.toNat+g.m.toNat)).1 vol g area s no).2,(E.reads (g.at_ area s) (g.k.toNat+g.m.toNat)).2)
    |false=>(out++((J2 (E.reads (g.at_ area s) (g.k.toNat+g.m.toNat)).1 vol g area s no).1.take g.k.toNat).flatten,0,(E.reads (g.at_ area s) (g.k.toNat+g.m.toNat)).2):=rfl
   rw[hstep,hkn,hmn,← hjs]at hNs
   generalize g.at_ area js=A at hNs wF hAr
   clear hstep hN
   obtain⟨n,hn⟩:∃ n,n=k+m:=⟨_,rfl⟩
   rw[← hn]at hNs
   have hwr:IntKind.i64.wrap (g.k+g.m)=(n:Int):=by rw[x9 _ (by omega) (by omega)];omega
   refine w6 (fun st=>∃ out E,D.snapN vol g area no (s+1)=(out,0,E)∧st=⟨⟨114,[(0,.ref 0 0),(1,i64 vol),(3,i64 area),(4,i64 no),(5,i64 long),(8,.p (.box g.pv)),(16,.msl 3 1 0 (bx out).length),(50,i64 Sv),(51,i64 js)]⟩,Z5 E++[.row z4 1 (bx out)]⟩) (z7 (q8 (q7 hT ?_))) ?_
   ·refine y8 ⟨⟨114,[(0,.ref 0 0),(1,i64 vol),(3,i64 area),(4,i64 no),(5,i64 long),(8,.p (.box g.pv)),(16,.msl 3 1 0 (bx out).length),(17,i64 js),(18,i64 A),(50,i64 Sv),(51,i64 js)]⟩,Z5 E++[.row z4 1 (bx out)]⟩ True (q7 hT ?_) (fun _=>?_)
    ·refine x8 (u5 wF _ rfl rfl) ?_
     exact⟨q9 [0,1,2,3] [0,1,3,4,5,8,16,17,18,50,51] rfl,trivial⟩
    refine w6 (fun st=>∃ n',n'=n∧st=⟨⟨114,[(0,.ref 0 0),(1,i64 vol),(3,i64 area),(4,i64 no),(5,i64 long),(8,.p (.box g.pv)),(16,.msl 3 1 0 (bx out).length),(17,i64 js),(18,i64 A),(20,.msl 4 1 0 n'),(50,i64 Sv),(51,i64 js)]⟩,Z5 E++[.row z4 1 (bx out),.row z5 1 (List.replicate n' v8r)]⟩) (q7 hT ?_) ?_
    ·refine⟨⟨rfl,by omega,by show IntKind.i64.wrap (g.k+g.m)*24≤_;omega,by omega⟩,?_⟩
     exact⟨_,q9 [0,1,2,3,4] [0,1,3,4,5,8,16,17,18,20,50,51] rfl,(IntKind.i64.wrap (g.k+g.m)).toNat,by omega,rfl⟩
    rintro _ ⟨n',hn',rfl⟩
    rw[hn']
    clear hn' n'
    refine w6 (fun st=>∃ X F,X=(E.reads A n).1∧F=(E.reads A n).2∧st=⟨⟨114,[(0,.ref 0 0),(1,i64 vol),(3,i64 area),(4,i64 no),(5,i64 long),(8,.p (.box g.pv)),(16,.msl 3 1 0 (bx out).length),(17,i64 js),(20,.p (.sl 1 (y6 X))),(50,i64 Sv),(51,i64 js)]⟩,Z5 F++[.row z4 1 (bx out)]⟩) (q8 (q7 hT ?_)) ?_
    ·refine z7 ?_
     refine w7 (fun c st=>∃ (j:Nat) (jj:Int) (X:List (List PV)) (F:Dev),c+j=n∧jj=j∧X=y6 (E.reads A j).1++List.replicate (n - j) v8r∧F=(E.reads A j).2∧st=⟨⟨114,[(0,.ref 0 0),(1,i64 vol),(3,i64 area),(4,i64 no),(5,i64 long),(8,.p (.box g.pv)),(16,.msl 3 1 0 (bx out).length),(17,i64 js),(18,i64 A),(20,.msl 4 1 0 n),(50,i64 Sv),(51,i64 js),(68,i64 n),(69,i64 jj)]⟩,Z5 F++[.row z4 1 (bx out),.row z5 1 X]⟩) n ⟨⟨114,_⟩,_⟩ (q9 [0,1,2,3,4] [0,1,3,4,5,8,16,17,18,20,50,51,68,69] rfl) ⟨0,0,_,E,by omega,rfl,rfl,rfl,rfl⟩ ?_
     rintro c st ⟨j,jj,X,F,hcj,hjj,hX,hFF,rfl⟩
     refine q8 (q7 hT ?_)
     refine q8 (z6 (x7 (fun h=>?_) (fun h=>?_)))
     ·have h:=of_decide_eq_true (show decide (jj<(n:Int))=true from h)
      have hjn:j<n:=by omega
      refine z9 ?_
      have hFo:F.Ok b:=by rw[hFF];exact z2k hEo A j
      have hwA:IntKind.i64.wrap (A+jj)=A+j:=by rw[x9 _ (by omega) (by omega),hjj]
      have w:=x1e F (A+j) (by have:=hFo.wl;omega) (fun x hx=>by have:=hFo.ws x hx;omega) (fun c hc=>by have:=hFo.cs c hc;omega)
      rw[← hwA]at w
      have e1:y6 (E.reads A (j+1)).1=y6 (E.reads A j).1++[[bP (F.read (A+j)).1.1]]:=by rw[hFF,← x1x];rfl
      have e2:(E.reads A (j+1)).2=(F.read (A+j)).2:=by rw[hFF];rfl
      rw[← hwA]at e1 e2
      generalize F.read (IntKind.i64.wrap (A+jj))=Y at w e1 e2
      obtain⟨⟨u,f⟩,G⟩:=Y
      have w:AFm Tryz.prog 3 q8w [.ref 0 0,i64 (IntKind.i64.wrap (A+jj))] (Z5 F) (Q0 (.tup [bA u,i64 f]) (Z5 G)):=w
      have e1:y6 (E.reads A (j+1)).1=y6 (E.reads A j).1++[[bP u]]:=e1
      have e2:(E.reads A (j+1)).2=G:=e2
      have hcl:(y6 (E.reads A j).1).length=j:=by rw[Z7,z3q]
      have hget:X[0+jj.toNat]?=some v8r:=by
       rw[show 0+jj.toNat=j by omega,hX,List.getElem?_append_right (by omega),hcl,Nat.sub_self,show n - j=(n - j - 1)+1 by omega];rfl
      have hset:X.set (0+jj.toNat) [bP u]=y6 (E.reads A (j+1)).1++List.replicate (n - (j+1)) v8r:=by
       rw[show 0+jj.toNat=j by omega,hX,List.set_append,if_neg (by omega),hcl,Nat.sub_self,e1,List.append_assoc]
       rw[show n - j=(n - (j+1))+1 by omega];rfl
      refine y8 ⟨⟨114,[(0,.ref 0 0),(1,i64 vol),(3,i64 area),(4,i64 no),(5,i64 long),(8,.p (.box g.pv)),(16,.msl 3 1 0 (bx out).length),(17,i64 js),(18,i64 A),(20,.msl 4 1 0 n),(50,i64 Sv),(51,i64 js),(68,i64 n),(69,i64 jj)]⟩,Z5 G++[.row z4 1 (bx out),.row z5 1 (X.set (0+jj.toNat) [bP u])]⟩ True (z7 (q8 (q7 hT ?_))) (fun _=>?_)
      ·refine q7 hT ?_
       refine x8 (Q1 [0,1,2] w rfl rfl rfl) ?_
       refine⟨⟨by omega,by omega⟩,?_⟩
       refine u7 hget ?_
       exact⟨q9 [0,1,2,3,4] [0,1,3,4,5,8,16,17,18,20,50,51,68,69] rfl,trivial⟩
      ·refine q7 hT ?_
       exact⟨c - 1,by omega,_,q9 [0,1,2,3,4] [0,1,3,4,5,8,16,17,18,20,50,51,68,69] rfl,j+1,IntKind.i64.wrap (jj+1),_,G,by omega,by rw[x9 _ (by omega) (by omega)];omega,hset,e2.symm,rfl⟩
     ·have h:=of_decide_eq_false (show decide (jj<(n:Int))=false from h)
      have hjn:j=n:=by omega
      rw[hjn]at hX hFF
      have hX:X=y6 (E.reads A n).1:=by rw[hX,Nat.sub_self];simp
      have hXl:X.length=n:=by rw[hX,Z7,z3q]
      refine u0 ?_
      exact⟨_,Wk.trans (v7u 20 4 1 n hX hXl.symm rfl rfl) (q9 [0,1,2,3] [0,1,3,4,5,8,16,17,20,50,51] rfl),_,F,rfl,hFF,rfl⟩
    rintro _ ⟨X,F,hX,hFF,rfl⟩
    rw[← hX,← hFF]at hNs
    have hXl:X.length=n:=by rw[hX,z3q]
    have hXb:∀ s∈X,s.length≤1000000:=fun s hs=>by rw[hX]at hs;have:=y1g hEo A n s hs;omega
    have wS:=w1b X vol g area js no hk4 hm3 (by omega) hXb
    have hTl:=y1f (l:=X) (vol:=vol) (g:=g) (area:=area) (stripe:=js) (no:=no)
    generalize J2 X vol g area js no=T at hNs wS hTl
    refine y8 ⟨⟨114,[(0,.ref 0 0),(1,i64 vol),(3,i64 area),(4,i64 no),(5,i64 long),(8,.p (.box g.pv)),(16,.msl 3 1 0 (bx out).length),(22,.p (.sl 1 (y6 T.1))),(23,i64 T.2),(50,i64 Sv),(51,i64 js)]⟩,Z5 F++[.row z4 1 (bx out)]⟩ True (q7 hT ?_) (fun _=>?_)
    ·refine x8 (u5 wS _ rfl rfl) ?_
     exact⟨q9 [0,1,2,3] [0,1,3,4,5,8,16,22,23,50,51] rfl,trivial⟩
    refine y8 ⟨⟨114,[(0,.ref 0 0),(1,i64 vol),(3,i64 area),(4,i64 no),(5,i64 long),(8,.p (.box g.pv)),(16,.msl 3 1 0 (bx out).length),(22,.p (.sl 1 (y6 T.1))),(50,i64 Sv),(51,i64 js)]⟩,Z5 F++[.row z4 1 (bx out)]⟩ (T.2=0) (q8 (q7 hT ?_)) ?_
    ·refine z6 (x7 (fun h=>?_) (fun h=>?_))
     ·have h:(T.2 != 0)=true:=h
      rw[h]at hNs
      have hNs:D.snapN vol g area no (s+1)=([],T.2,F):=hNs
      have hNS:=x2a (D:=D) (vol:=vol) (g:=g) (area:=area) (no:=no) (s:=s+1) (by rw[hNs];exact h) (S - (s+1))
      rw[show s+1+(S - (s+1))=S by omega,hNs]at hNS
      rw[hNS]at eZ
      have eZ:Z=match T.2 != 0 with
       |true=>(([],T.2),F)
       |false=>((List.take long.toNat [],0),F):=eZ
      rw[h]at eZ
      refine q8 (q7 hT ?_)
      refine Q8 (q3y 12 1 rfl) ?_
      refine x6 ?_
      exact y9 [0,1,2] ⟨(([],T.2),F),eZ.symm,rfl,rfl⟩ rfl
     ·exact z9 ⟨q9 [0,1,2,3] [0,1,3,4,5,8,16,22,50,51] rfl,by have h:(T.2 != 0)=false:=h;simpa using h⟩
    intro hT2
    obtain⟨hT1,hT3⟩:=hTl hT2
    rw[hkn,hmn]at hT1
    rw[hkn]at hT3
    rw[hT2]at hNs
    have hNs:D.snapN vol g area no (s+1)=(out++(T.1.take k).flatten,0,F):=hNs
    have hTc:=Z7 T.1
    have hsl:((y6 T.1).take g.k.toNat).drop (0:Int).toNat=y6 (T.1.take k):=by rw[hkn,v0c];rfl
    have hkl:(T.1.take k).length=k:=by rw[List.length_take];omega
    generalize T.1.take k=U at hNs hT3 hsl hkl
    have hUc:=Z7 U
    refine w6 (fun st=>∃ Y,Y=y6 U∧st=⟨⟨114,[(0,.ref 0 0),(1,i64 vol),(3,i64 area),(4,i64 no),(5,i64 long),(8,.p (.box g.pv)),(16,.msl 3 1 0 (bx out).length),(50,i64 Sv),(51,i64 js),(100,.p (.sl 1 Y)),(101,i64 Y.length),(102,i64 0)]⟩,Z5 F++[.row z4 1 (bx out)]⟩) (q7 hT ?_) ?_
    ·refine⟨⟨Int.le_refl _,by omega,by omega⟩,?_⟩
     exact⟨_,q9 [0,1,2,3] [0,1,3,4,5,8,16,50,51,100,101,102] rfl,_,hsl,rfl⟩
    rintro _ ⟨Y,rfl,rfl⟩
    refine z7 ?_
    refine w7 (fun c st=>∃ (j:Nat) (jj:Int) (out':y7),c+j=k∧jj=j∧out'=out++(U.take j).flatten∧out'.length=s*k*228+j*228∧st=⟨⟨114,[(0,.ref 0 0),(1,i64 vol),(3,i64 area),(4,i64 no),(5,i64 long),(8,.p (.box g.pv)),(16,.msl 3 1 0 (bx out').length),(50,i64 Sv),(51,i64 js),(100,.p (.sl 1 (y6 U))),(101,i64 (y6 U).length),(102,i64 jj)]⟩,Z5 F++[.row z4 1 (bx out')]⟩) k ⟨⟨114,_⟩,_⟩ (Wk.refl _ _) ⟨0,0,out,by omega,rfl,by simp,by omega,rfl⟩ ?_
    rintro c st ⟨j,jj,out',hcj,hjj,hout,houtl,rfl⟩
    refine q8 (q7 hT ?_)
    refine q8 (z6 (x7 (fun h=>?_) (fun h=>?_)))
    ·have h:=of_decide_eq_true (show decide (jj<(((y6 U).length:Nat):Int))=true from h)
     have hj:j<U.length:=by omega
     refine z9 ?_
     have hx:=List.getElem?_eq_getElem hj
     have hsl:=hT3 _ (List.getElem_mem hj)
     generalize U[j]=sh at hx hsl
     have hxp:(y6 U)[jj.toNat]?=some [bP sh]:=by rw[hjj,Int.toNat_natCast];exact Z2 hx
     have hob:=u6 out'
     have hsb:=u6 sh
     have hnew:out++(U.take (j+1)).flatten=out'++sh:=by
      rw[List.take_add_one,hx,List.flatten_append,hout,List.append_assoc];simp
     refine w6 (fun st=>∃ o,o=out'++sh∧st=⟨⟨114,[(0,.ref 0 0),(1,i64 vol),(3,i64 area),(4,i64 no),(5,i64 long),(8,.p (.box g.pv)),(16,.msl 3 1 0 (bx o).length),(50,i64 Sv),(51,i64 js),(100,.p (.sl 1 (y6 U))),(101,i64 (y6 U).length),(102,i64 jj)]⟩,Z5 F++[.row z4 1 (bx o)]⟩) (z7 (q8 (q7 hT ?_))) ?_
     ·refine⟨by omega,u7 hxp ?_⟩
      refine q7 hT ?_
      refine⟨rfl,⟨by show ((bx out').length+(bx sh).length)*1≤_;omega,by omega⟩,?_⟩
      refine⟨_,q9 [0,1,2,4] [0,1,3,4,5,8,16,50,51,100,101,102] rfl,_,rfl,?_⟩
      rw[q2p];rfl
     ·rintro _ ⟨o,rfl,rfl⟩
      refine q7 hT ?_
      exact⟨c - 1,by omega,_,q9 [0,1,2,3] [0,1,3,4,5,8,16,50,51,100,101,102] rfl,j+1,IntKind.i64.wrap (jj+1),_,by omega,by rw[x9 _ (by omega) (by omega)];omega,hnew.symm,by rw[List.length_append];omega,rfl⟩
    ·have h:=of_decide_eq_false (show decide (jj<(((y6 U).length:Nat):Int))=false from h)
     rw[List.take_of_length_le (by omega)]at hout
     refine u0 ?_
     exact⟨_,q9 [0,1,2,3] [0,1,3,4,5,8,16,50,51] rfl,out',F,by rw[hNs,hout],rfl⟩
   ·rintro _ ⟨out,E,hN,rfl⟩
    refine q7 hT ?_
    exact⟨c - 1,by omega,_,q9 [0,1,2,3] [0,1,3,4,5,8,16,50,51] rfl,s+1,IntKind.i64.wrap (js+1),Sv,out,E,by omega,by rw[x9 _ (by omega) (by omega)];omega,hSv,hN,rfl⟩
  ·have h:=of_decide_eq_false (show decide (js<Sv)=false from h)
   rw[show s=S by omega]at hN
   refine u0 ?_
   exact⟨_,q9 [0,1,2,3] [5,16] rfl,out,E,hN,rfl⟩
 rintro _ ⟨out,E,hN,rfl⟩
 have hol:out.length=S*k*228:=by have:=y0i (D:=D) (vol:=vol) (g:=g) (area:=area) (no:=no) S (by rw[hN]);rwa [hN,hkn]at this
 rw[hN]at eZ
 have eZ:Z=((out.take long.toNat,0),E):=eZ
 have hbl:=u6 out
 refine Q8 (q0s 16 3 _ rfl rfl rfl rfl) ?_
 refine q8 (q7 hT ?_)
 refine⟨⟨Int.le_refl _,by omega,by omega⟩,?_⟩
 refine x6 ?_
 refine y9 [0,1,2] ⟨((out.take long.toNat,0),E),eZ.symm,?_,rfl⟩ rfl
 show AV.tup [.p (.sl 1 (((bx out).take long.toNat).drop 0)),i64 0]=_
 rw[List.drop_zero,← y3j]
end Go.Proofs.YtinfbclgkghgaaaGreat.AL
namespace Go.Proofs.YtinfbclgkghgaaaGreat.AL
open Go Go.Proofs
structure Fol where
 txs:List y7
 next:Int
 chain:Int
 epoch:Int
 tx:y7
 index:Int
 of_:Int
 ended:Bool
def u8b (vol:Int)(g:GeoV)(p:Pc):Int:=((Crc.sum (p.sector vol g 0).1).toNat:Int)
end Go.Proofs.YtinfbclgkghgaaaGreat.AL
namespace Go.Proofs.YtinfbclgkghgaaaGreat.AL
open Go Go.Proofs
structure TailV where
 txs:List y7
 next:Int
 chain:Int
 epoch:Int
 deriving DecidableEq
abbrev TailV.cv (t:TailV):List AV:=[.p (.sl 1 (y6 t.txs)),i64 t.next,i64 t.chain,i64 t.epoch]
abbrev TailV.av (t:TailV):AV:=.agg t.cv
def TailV.zero:TailV:=⟨[],0,0,0⟩
def Fol.tail (F:Fol):TailV:=⟨F.txs,F.next,F.chain,F.epoch⟩
end Go.Proofs.YtinfbclgkghgaaaGreat.AL
namespace Go.Proofs.YtinfbclgkghgaaaGreat.AL
open Go Go.Proofs
def v9n (n:Int):List Pc→Int→Bool
 |[],_=>true
 |p :: r,k=>match p.index != k||p.of_ != n with|true=>false|false=>v9n n r (k+1)
end Go.Proofs.YtinfbclgkghgaaaGreat.AL
namespace Go.Proofs.YtinfbclgkghgaaaGreat.AL
open Go Go.Proofs
structure Rg where
 vol:Int
 g:GeoV
 epoch:Int
 frm:Int
 start:Int
 next:Int
 chain:Int
end Go.Proofs.YtinfbclgkghgaaaGreat.AL
namespace Go.Proofs.YtinfbclgkghgaaaGreat.AL
open Go Go.Proofs
def v6k:Nat→y7→List y7
 |0,b=>[b]
 |f+1,b=>match decide (b.length > 200) with
  |true=>b.take 200 :: v6k f (b.drop 200)
  |false=>[b]
def y7y (b:y7):List y7:=v6k b.length b
def w6r (R:Rg)(p:Pc):List Put9:=[⟨q3k R.g 0 (p.seq.tmod R.g.w),(p.sector R.vol R.g 0).1⟩,⟨q3k R.g 1 (p.seq.tmod R.g.w),(p.sector R.vol R.g 1).1⟩]
def v8t (R:Rg)(D:Dev)(p:Pc):Int × (Rg × Dev):=match (D.all9 (w6r R p)).1 != 0 with
 |true=>((D.all9 (w6r R p)).1,(R,(D.all9 (w6r R p)).2))
 |false=>(0,({ R with next:=R.next+1,chain:=u8b R.vol R.g p },(D.all9 (w6r R p)).2))
end Go.Proofs.YtinfbclgkghgaaaGreat.AL
namespace Go.Proofs.YtinfbclgkghgaaaGreat.AL
open Go Go.Proofs
structure Rg.Ok (R:Rg):Prop where
 g:R.g.may=true
 vol:X2 R.vol=true
 e:0≤R.epoch∧R.epoch≤4294967295
 f:0≤R.frm∧R.frm≤R.next
 s:0≤R.start∧R.start≤R.next
 n:R.next≤4294967295
 c:0≤R.chain∧R.chain≤4294967295
def pcR (R:Rg)(i n:Int)(b:y7):Pc:=⟨R.next,R.epoch,R.frm,R.chain,i,n,b⟩
def u8c (n:Int):List y7→Int→Rg→Dev→Int × (Rg × Dev)
 |[],_,R,D=>(0,(R,D))
 |b :: r,i,R,D=>match (v8t R D (pcR R i n b)).1 != 0 with
  |true=>v8t R D (pcR R i n b)
  |false=>u8c n r (i+1) (v8t R D (pcR R i n b)).2.1 (v8t R D (pcR R i n b)).2.2
def Rg.append (R:Rg)(D:Dev)(tx:y7):Int × (Rg × Dev):=match decide ((y7y tx).length > 64) with
 |true=>(2,(R,D))
 |false=>match decide (R.next+(y7y tx).length - R.start > R.g.w)||decide (R.next+(y7y tx).length > 4294967295) with
  |true=>(4,(R,D))
  |false=>u8c (y7y tx).length (y7y tx) 0 R D
end Go.Proofs.YtinfbclgkghgaaaGreat.AL
namespace Go.Proofs.YtinfbclgkghgaaaGreat.AL
open Go Go.Proofs
structure CleanP (D:Dev) (N b:Nat):Prop where
 ok:D.Ok b
 dead:D.dead=false
 armed:D.armed=false
 waits:D.waits=[]
 len:D.cells.length=N
 well:∀ c∈D.cells,c.drop=0∧c.miss=[]
theorem w4q {D:Dev}{N k:Nat}(h:D.cells.length=N)(hk:k<N):D.has (k:Int)=true:=by
 unfold Dev.has;rw[h,decide_eq_true (show (k:Int)≥0 by omega),decide_eq_true (show (k:Int)<(N:Int) by omega)];rfl
theorem x5r {E:Dev}(h1:E.dead=false)(h2:E.armed=false):E.lives.dead=false:=by
 show (E.dead||(E.armed&&E.left==0))=false
 rw[h1,h2];rfl
theorem v9p {E:Dev}{a:Int}{s:y7}(hd:E.dead=false)(hw:E.waits=[])(hh:E.has a=true){c:Cell}(hc:E.cells[a.toNat]?=some c):E.hhas a s=((!c.lost&&(c.s==s),0),E.count):=by
 have hr:E.readAt a=match c.lost with|true=>(20,[])|false=>(0,c.s):=by
  unfold Dev.readAt;rw[hw];show (match E.cells[a.toNat]? with|some c=>_|none=>_)=_;rw[hc];rfl
 have e:E.read a=(((E.readAt a).2,(E.readAt a).1),E.count):=by unfold Dev.read;rw[hd,hh]
 unfold Dev.hhas
 rw[e,hr]
 cases c.lost with
 |true=>rfl
 |false=>rfl
theorem w1e {D:Dev}{N b:Nat}(h:CleanP D N b){k:Nat}(hk:k<N){s:y7}(hs:s.length=256) :
 ∃ E,D.once k s=((true,0),E)∧CleanP E N (b+1)∧E.cells=D.cells.set k ⟨s,false,0,[]⟩:=by
 obtain⟨c,hc⟩:∃ c,D.cells[k]?=some c:=⟨_,List.getElem?_eq_getElem (by rw[h.len];omega)⟩
 have hlt:=(List.getElem?_eq_some_iff.1 hc).1
 obtain⟨cd,cm⟩:=h.well c (List.mem_of_getElem? hc)
 have hh:D.has k=true:=w4q h.len hk
 have hl:D.lives.dead=false:=x5r h.dead h.armed
 have ok:=(h.ok.write k s).flush
 have hput:D.lives.count.put k s = { D.lives.count with waits:=[⟨k,s⟩] }:=by
  unfold Dev.put
  rw[Int.toNat_natCast,show D.lives.count.cells[k]?=some c from hc]
  simp only
  rw[cd,cm]
  show { D.lives.count with waits:=D.waits++[(⟨k,s⟩:Wr)] }=_
  rw[h.waits];rfl
 have e:D.write k s=(0,{ D.lives.count with waits:=[⟨k,s⟩] }):=by
  rw[← hput]
  unfold Dev.write
  rw[h.dead,hh,show ((s.length:Int) != 256)=false by rw[hs];rfl,hl]
 have hl2:Dev.dead (Dev.lives { D.lives.count with waits:=[⟨k,s⟩] })=false:=x5r hl h.armed
 have ef:Dev.flush { D.lives.count with waits:=[⟨k,s⟩] }=(0,(Dev.lives { D.lives.count with waits:=[⟨k,s⟩] }).drain [true]):=by
  unfold Dev.flush
  rw[show Dev.dead { D.lives.count with waits:=[⟨k,s⟩] }=false from hl,hl2]
 rw[e]at ok
 simp only at ok
 rw[ef]at ok
 have hcells:((Dev.lives { D.lives.count with waits:=[⟨k,s⟩] }).drain [true]).cells=D.cells.set k ⟨s,false,0,[]⟩:=by
  show q1b D.cells ⟨k,s⟩=_
  rw[q6z (x:=⟨k,s⟩) (show D.cells[((k:Nat):Int).toNat]?=some c by rw[Int.toNat_natCast];exact hc)]
  show D.cells.set ((k:Nat):Int).toNat { c with s:=s,lost:=false }=_
  rw[Int.toNat_natCast,cd,cm]
 have hwell:∀ c∈D.cells.set k ⟨s,false,0,[]⟩,c.drop=0∧c.miss=[]:=fun x hx=>by
  rcases List.mem_or_eq_of_mem_set hx with hx|rfl
  ·exact h.well x hx
  ·exact⟨rfl,rfl⟩
 have cE:CleanP ((Dev.lives { D.lives.count with waits:=[⟨k,s⟩] }).drain [true]) N (b+1):=⟨ok,hl2,h.armed,rfl,by rw[hcells,List.length_set];exact h.len,by rw[hcells];exact hwell⟩
 have eo:D.once k s=((Dev.lives { D.lives.count with waits:=[⟨k,s⟩] }).drain [true]).hhas k s:=by
  unfold Dev.once;rw[e];simp only;rw[ef];rfl
 generalize (Dev.lives { D.lives.count with waits:=[⟨k,s⟩] }).drain [true]=E at cE hcells eo
 have hce:E.cells[((k:Nat):Int).toNat]?=some ⟨s,false,0,[]⟩:=by rw[hcells,Int.toNat_natCast];exact List.getElem?_set_self hlt
 refine⟨E.count,?_,⟨cE.ok.count,cE.dead,cE.armed,cE.waits,cE.len,cE.well⟩,hcells⟩
 rw[eo,v9p cE.dead cE.waits (w4q cE.len hk) hce]
 simp
theorem w4r {D:Dev}{N b:Nat}(h:CleanP D N b){k:Nat}(hk:k<N){s:y7}(hs:s.length=256) :
 ∃ E,D.one k s=(0,E)∧CleanP E N (b+1)∧E.cells=D.cells.set k ⟨s,false,0,[]⟩:=by
 obtain⟨E,h1,h2,h3⟩:=w1e h hk hs
 refine⟨E,?_,h2,h3⟩
 show Dev.tryK 4 D k s=_
 unfold Dev.tryK
 rw[h1];rfl
end Go.Proofs.YtinfbclgkghgaaaGreat.AL
namespace Go.Proofs.YtinfbclgkghgaaaGreat.AL
open Go Go.Proofs
def q4p (D:Dev)(k:Nat):y7:=match D.cells[k]? with
 |some c=>match c.lost with|true=>[]|false=>c.s
 |none=>[]
theorem u8d {D:Dev}{N b k:Nat}(h:CleanP D N b)(hk:k<N):(D.read k).1.1=q4p D k∧(D.read k).2=D.count∧CleanP D.count N b:=by
 have e:D.read k=(((D.readAt k).2,(D.readAt k).1),D.count):=by unfold Dev.read;rw[h.dead,w4q h.len hk]
 refine⟨?_,by rw[e],⟨h.ok.count,h.dead,h.armed,h.waits,h.len,h.well⟩⟩
 rw[e]
 show (D.readAt k).2=_
 unfold Dev.readAt q4p
 rw[h.waits,Int.toNat_natCast]
 show (match D.cells[k]? with|some c=>(match c.lost with|true=>((20,[]):Int × y7)|false=>(0,c.s))|none=>(20,[])).2=_
 cases D.cells[k]? with
 |none=>rfl
 |some c=>cases hl:c.lost <;> simp[hl]
end Go.Proofs.YtinfbclgkghgaaaGreat.AL
namespace Go.Proofs.YtinfbclgkghgaaaGreat.AL
open Go Go.Proofs
structure LiveP (D:Dev) (N b:Nat):Prop where
 ok:D.Ok b
 dead:D.dead=false
 waits:D.waits=[]
 len:D.cells.length=N
 well:∀ c∈D.cells,c.drop=0∧c.miss=[]
theorem CleanP.live {D:Dev}{N b:Nat}(h:CleanP D N b):LiveP D N b:=⟨h.ok,h.dead,h.waits,h.len,h.well⟩
theorem LiveP.arm {D:Dev}{N b:Nat}(h:LiveP D N b)(n:Int):LiveP (D.arm n) N b:=⟨h.ok.arm n,h.dead,h.waits,h.len,h.well⟩
def q4i (s:y7):Cell:=⟨s,false,0,[]⟩
structure DiedP (D E:Dev) (N b:Nat) (x:Put9):Prop where
 ok:E.Ok b
 dead:E.dead=true
 cells:E.cells=D.cells
 waits:E.waits=[]∨E.waits=[⟨x.at_,x.s⟩]
theorem w4s {D:Dev}{N b:Nat}(h:LiveP D N b){k:Nat}(hk:k<N){s:y7}(hs:s.length=256) :
 (∃ E,D.once k s=((true,0),E)∧LiveP E N (b+1)∧E.cells=D.cells.set k (q4i s))∨∃ E,D.once k s=((false,21),E)∧DiedP D E N (b+1) ⟨k,s⟩:=by
 obtain⟨c,hc⟩:∃ c,D.cells[k]?=some c:=⟨_,List.getElem?_eq_getElem (by rw[h.len];omega)⟩
 have hlt:=(List.getElem?_eq_some_iff.1 hc).1
 obtain⟨cd,cm⟩:=h.well c (List.mem_of_getElem? hc)
 have hh:D.has k=true:=w4q h.len hk
 have okw:=h.ok.write k s
 cases hl:D.lives.dead with
 |true=>
  have e:D.write k s=(21,D.lives):=by
   unfold Dev.write
   rw[h.dead,hh,show ((s.length:Int) != 256)=false by rw[hs];rfl,hl]
  refine .inr ⟨D.lives,?_,⟨h.ok.lives.mono (Nat.le_succ _),hl,rfl,.inl h.waits⟩⟩
  unfold Dev.once;rw[e];rfl
 |false=>
  have hput:D.lives.count.put k s = { D.lives.count with waits:=[⟨k,s⟩] }:=by
   unfold Dev.put
   rw[Int.toNat_natCast,show D.lives.count.cells[k]?=some c from hc]
   simp only
   rw[cd,cm]
   show { D.lives.count with waits:=D.waits++[(⟨k,s⟩:Wr)] }=_
   rw[h.waits];rfl
  have e:D.write k s=(0,{ D.lives.count with waits:=[⟨k,s⟩] }):=by
   rw[← hput]
   unfold Dev.write
   rw[h.dead,hh,show ((s.length:Int) != 256)=false by rw[hs];rfl,hl]
  rw[e]at okw
  simp only at okw
  have okf:=okw.flush
  cases hl2:Dev.dead (Dev.lives { D.lives.count with waits:=[⟨k,s⟩] }) with
  |true=>
   have ef:Dev.flush { D.lives.count with waits:=[⟨k,s⟩] }=(21,Dev.lives { D.lives.count with waits:=[⟨k,s⟩] }):=by
    unfold Dev.flush
    rw[show Dev.dead { D.lives.count with waits:=[⟨k,s⟩] }=false from hl,hl2]
   rw[ef]at okf
   refine .inr ⟨Dev.lives { D.lives.count with waits:=[⟨k,s⟩] },?_,⟨okf,hl2,rfl,.inr rfl⟩⟩
   unfold Dev.once;rw[e];simp only;rw[ef];rfl
  |false=>
   have ef:Dev.flush { D.lives.count with waits:=[⟨k,s⟩] }=(0,(Dev.lives { D.lives.count with waits:=[⟨k,s⟩] }).drain [true]):=by
    unfold Dev.flush
    rw[show Dev.dead { D.lives.count with waits:=[⟨k,s⟩] }=false from hl,hl2]
   rw[ef]at okf
   have hcells:((Dev.lives { D.lives.count with waits:=[⟨k,s⟩] }).drain [true]).cells=D.cells.set k (q4i s):=by
    show q1b D.cells ⟨k,s⟩=_
    rw[q6z (x:=⟨k,s⟩) (show D.cells[((k:Nat):Int).toNat]?=some c by rw[Int.toNat_natCast];exact hc)]
    show D.cells.set ((k:Nat):Int).toNat { c with s:=s,lost:=false }=_
    rw[Int.toNat_natCast,cd,cm];rfl
   have hwell:∀ c∈D.cells.set k (q4i s),c.drop=0∧c.miss=[]:=fun x hx=>by
    rcases List.mem_or_eq_of_mem_set hx with hx|rfl
    ·exact h.well x hx
    ·exact⟨rfl,rfl⟩
   have cE:LiveP ((Dev.lives { D.lives.count with waits:=[⟨k,s⟩] }).drain [true]) N (b+1):=⟨okf,hl2,rfl,by rw[hcells,List.length_set];exact h.len,by rw[hcells];exact hwell⟩
   have eo:D.once k s=((Dev.lives { D.lives.count with waits:=[⟨k,s⟩] }).drain [true]).hhas k s:=by
    unfold Dev.once;rw[e];simp only;rw[ef];rfl
   generalize (Dev.lives { D.lives.count with waits:=[⟨k,s⟩] }).drain [true]=E at cE hcells eo
   have hce:E.cells[((k:Nat):Int).toNat]?=some (q4i s):=by rw[hcells,Int.toNat_natCast];exact List.getElem?_set_self hlt
   refine .inl ⟨E.count,?_,⟨cE.ok.count,cE.dead,cE.waits,cE.len,cE.well⟩,hcells⟩
   rw[eo,v9p cE.dead cE.waits (w4q cE.len hk) hce]
   simp[q4i]
theorem v0w {D:Dev}{N b:Nat}(h:LiveP D N b){k:Nat}(hk:k<N){s:y7}(hs:s.length=256) :
 (∃ E,D.one k s=(0,E)∧LiveP E N (b+1)∧E.cells=D.cells.set k (q4i s))∨∃ E,D.one k s=(21,E)∧DiedP D E N (b+1) ⟨k,s⟩:=by
 rcases w4s h hk hs with ⟨E,h1,h2,h3⟩|⟨E,h1,h2⟩
 ·refine .inl ⟨E,?_,h2,h3⟩
  show Dev.tryK 4 D k s=_
  unfold Dev.tryK
  rw[h1];rfl
 ·refine .inr ⟨E,?_,h2⟩
  show Dev.tryK 4 D k s=_
  unfold Dev.tryK
  rw[h1];rfl
def q2c:List Put9→List Cell→List Cell
 |[],cs=>cs
 |p :: r,cs=>q2c r (cs.set p.at_.toNat (q4i p.s))
theorem z3r:∀ (l:List Put9) (cs:List Cell),(q2c l cs).length=cs.length
 |[],_=>rfl
 |p :: r,cs=>by rw[q2c,z3r r,List.length_set]
theorem x2b (l r:List Put9)(cs:List Cell):q2c (l++r) cs=q2c r (q2c l cs):=by
 induction l generalizing cs with
 |nil=>rfl
 |cons p l ih=>exact ih _
def v6m (N:Nat)(p:Put9):Prop:=0≤p.at_∧p.at_<(N:Int)∧p.s.length=256
theorem y7z {N:Nat}:∀ (ps:List Put9) {D:Dev} {b:Nat} (m:Int),(∀ p∈ps,v6m N p)→LiveP D N b →
 (∃ E m',q4m y7v ps D m=(0,(E,m'))∧LiveP E N (b+ps.length)∧E.cells=q2c ps D.cells) ∨
 ∃ E m' j x,j<ps.length∧ps[j]?=some x∧q4m y7v ps D m=(21,(E,m'))∧E.Ok (b+ps.length)∧E.dead=true∧E.cells=q2c (ps.take j) D.cells∧(E.waits=[]∨E.waits=[⟨x.at_,x.s⟩])
 |[],D,b,m,_,h=>.inl ⟨D,m,rfl,h,rfl⟩
 |p :: r,D,b,m,hp,h=>by
  obtain⟨h0,h1,h2⟩:=hp p (by simp)
  have hk:((p.at_.toNat:Nat):Int)=p.at_:=by omega
  have eg:∀ e E,D.one p.at_ p.s=(e,E)→y7v D m p.at_ p.s=(e,(E,x5q e m)):=fun e E he=>by unfold y7v;rw[he]
  rcases v0w h (k:=p.at_.toNat) (by omega) h2 with ⟨E,g1,g2,g3⟩|⟨E,g1,g2⟩
  ·rw[hk]at g1
   have eg:=eg _ _ g1
   rcases y7z r (x5q 0 m) (fun q hq=>hp q (by simp[hq])) g2 with ⟨F,m',k1,k2,k3⟩|⟨F,m',j,x,k0,k1,k2,k3,k4,k5,k6⟩
   ·refine .inl ⟨F,m',?_,by rw[List.length_cons,show b+(r.length+1)=b+1+r.length by omega];exact k2,by rw[k3,g3];rfl⟩
    rw[q7h,eg];exact k1
   ·refine .inr ⟨F,m',j+1,x,by rw[List.length_cons];omega,by rw[List.getElem?_cons_succ];exact k1,?_,by rw[List.length_cons,show b+(r.length+1)=b+1+r.length by omega];exact k3,k4,by rw[k5,g3];rfl,k6⟩
    rw[q7h,eg];exact k2
  ·rw[hk]at g1 g2
   have eg:=eg _ _ g1
   refine .inr ⟨E,x5q 21 m,0,p,by simp,rfl,?_,g2.ok.mono (by rw[List.length_cons];omega),g2.dead,g2.cells,g2.waits⟩
   rw[q7h,eg];rfl
theorem u1j {N:Nat}(ps:List Put9){D:Dev}{b:Nat}(hp:∀ p∈ps,v6m N p)(h:LiveP D N b)(keep:List Bool) :
 (D.all9 ps).2.Ok (b+ps.length)∧∃ j,j≤ps.length∧CleanP ((D.all9 ps).2.crashed keep) N (b+ps.length)∧((D.all9 ps).2.crashed keep).cells=q2c (ps.take j) D.cells∧(((D.all9 ps).1=0∧j=ps.length)∨(D.all9 ps).1=21):=by
 have wellS:∀ (l:List Put9) (cs:List Cell),(∀ c∈cs,c.drop=0∧c.miss=[])→∀ c∈q2c l cs,c.drop=0∧c.miss=[]:=by
  intro l
  induction l with
  |nil=>exact fun cs h=>h
  |cons p l ih=>
   intro cs hcs
   refine ih _ fun c hc=>?_
   rcases List.mem_or_eq_of_mem_set hc with hc|rfl
   ·exact hcs c hc
   ·exact⟨rfl,rfl⟩
 have fin:∀ (E:Dev) (j:Nat),(E.crashed keep).cells=q2c (ps.take j) D.cells→E.Ok (b+ps.length)→CleanP (E.crashed keep) N (b+ps.length):=fun E j hE ok=>
  ⟨ok.crashed keep,rfl,rfl,rfl,by rw[hE,z3r,h.len],by rw[hE];exact wellS _ _ h.well⟩
 rcases y7z ps 0 hp h with ⟨E,m',h1,h2,h3⟩|⟨E,m',j,x,h0,hx,h1,h2,h3,h4,h5⟩
 ·have e:D.all9 ps=(0,E):=by unfold Dev.all9;rw[h1]
  rw[e]
  have hc:(E.crashed keep).cells=q2c (ps.take ps.length) D.cells:=by
   show q1k E.waits keep E.waits.length E.cells=_
   rw[h2.waits,List.take_length];exact h3
  exact⟨h2.ok,ps.length,Nat.le_refl _,fin E _ hc h2.ok,hc,.inl ⟨rfl,rfl⟩⟩
 ·have e:D.all9 ps=(21,E):=by unfold Dev.all9;rw[h1]
  rw[e]
  refine⟨h2,?_⟩
  have hj:(E.crashed keep).cells=q2c (ps.take j) D.cells∨(E.crashed keep).cells=q2c (ps.take (j+1)) D.cells:=by
   show q1k E.waits keep E.waits.length E.cells=_∨q1k E.waits keep E.waits.length E.cells=_
   rcases h5 with h5|h5
   ·rw[h5];exact .inl h4
   ·rw[h5]
    show (match kept keep 0 with|true=>q1b E.cells ⟨x.at_,x.s⟩|false=>E.cells)=_∨(match kept keep 0 with|true=>q1b E.cells ⟨x.at_,x.s⟩|false=>E.cells)=_
    cases kept keep 0 with
    |false=>exact .inl h4
    |true=>
     right
     obtain⟨q0,q1,q2⟩:=hp x (List.mem_of_getElem? hx)
     have hlen:x.at_.toNat<E.cells.length:=by rw[h4,z3r,h.len];omega
     have hc:=List.getElem?_eq_getElem hlen
     have hw:∀ c∈E.cells,c.drop=0∧c.miss=[]:=by rw[h4];exact wellS _ _ h.well
     have hcw:=hw _ (List.getElem_mem hlen)
     generalize E.cells[x.at_.toNat]=c at hc hcw
     show q1b E.cells ⟨x.at_,x.s⟩=_
     rw[q6z (x:=⟨x.at_,x.s⟩) hc,List.take_add_one,hx,x2b,← h4]
     show E.cells.set x.at_.toNat { c with s:=x.s,lost:=false }=E.cells.set x.at_.toNat (q4i x.s)
     unfold q4i
     rw[← hcw.1,← hcw.2]
  rcases hj with hj|hj
  ·exact⟨j,by omega,fin E _ hj h2,hj,.inr rfl⟩
  ·exact⟨j+1,by omega,fin E _ hj h2,hj,.inr rfl⟩
end Go.Proofs.YtinfbclgkghgaaaGreat.AL
namespace Go.Proofs.YtinfbclgkghgaaaGreat.AL
open Go Go.Proofs
def z7z (vol:Int)(a:Nat):Blk:=⟨1,vol,a,0,0,[]⟩
def U4 (vol:Int)(a:Nat):y7:=(z7z vol a).sld.1
def wrK (vol:Int)(D:Dev):Nat→Dev
 |0=>D
 |k+1=>((wrK vol D k).write k (U4 vol k)).2
def GeoV.secs (g:GeoV):Nat:=(4+2*g.w+2*g.s*(g.k+g.m)).toNat
def q5b (vol:Int)(g:GeoV):Dev:=(wrK vol (Dev.new g.secs) g.secs).flush.2
theorem w4t (vol:Int){D:Dev}{b:Nat}(h:D.Ok b):∀ k,(wrK vol D k).Ok (b+k)
 |0=>h
 |k+1=>(w4t vol h k).write _ _
theorem z8a {g:GeoV}(hg:g.may=true):(g.secs:Int)=4+2*g.w+2*g.s*(g.k+g.m)∧g.secs≤4096∧4+2*g.w≤(g.secs:Int):=by
 have hg2:=hg
 unfold GeoV.may at hg2
 rw[Bool.and_eq_true,decide_eq_true_eq]at hg2
 obtain⟨m1,m2,m3,m4,m5⟩:=q9e hg2.1
 have hb:=g.of_may hg
 unfold GeoV.secs
 have h0:0≤2*g.s*(g.k+g.m):=by rw[Int.mul_assoc];omega
 omega
def q6k (vol:Int)(g:GeoV):Bool:=g.may&&(!decide (g.w > 16)&&(!decide (vol<0)&&!decide (vol > 4294967295)))
abbrev w6s:AV:=.p (.raw (.pointer none))
set_option maxRecDepth 20000 in
theorem q7j (vol:Int)(g:GeoV)(h:q6k vol g=false):AF Tryz.prog z4f [i64 vol,g.av] [] (Q0 w6s []):=by
 have wm:=q6m g
 unfold q6k at h
 refine u9 hT z4g rfl rfl z4h rfl ?_
 refine q8 (q7 hT ?_)
 refine Q8 (Q6 0 g.pv rfl rfl) ?_
 refine q8 (q7 hT ?_)
 refine x8 (u5 wm _ rfl rfl) ?_
 refine q8 (q8 (q7 hT ?_))
 refine x7 (fun h0=>?_) (fun h0=>?_)
 ·refine z6 ?_
  refine q8 (q7 hT ?_)
  refine x6 ?_
  exact y9 [] ⟨rfl,rfl⟩ rfl
 have h0:(!g.may)=false:=h0
 refine x7 (fun h1=>?_) (fun h1=>?_)
 ·refine z6 ?_
  refine q8 (q7 hT ?_)
  refine x6 ?_
  exact y9 [] ⟨rfl,rfl⟩ rfl
 have h1:decide (g.w > 16)=false:=h1
 refine x7 (fun h2=>?_) (fun h2=>?_)
 ·refine z6 ?_
  refine q8 (q7 hT ?_)
  refine x6 ?_
  exact y9 [] ⟨rfl,rfl⟩ rfl
 have h2:decide (vol<0)=false:=h2
 refine z6 (x7 (fun h3=>?_) (fun h3=>?_))
 ·refine q8 (q7 hT ?_)
  refine x6 ?_
  exact y9 [] ⟨rfl,rfl⟩ rfl
 have h3:decide (vol > 4294967295)=false:=h3
 rw[(Bool.not_eq_false' _).mp h0,h1,h2,h3]at h
 exact absurd h (by decide)
set_option maxHeartbeats 1000000 in
set_option maxRecDepth 20000 in
theorem q2d (vol:Int)(g:GeoV)(h:q6k vol g=true):AF Tryz.prog z4f [i64 vol,g.av] [] (Q0 (.ref 0 0) (Z5 (q5b vol g))):=by
 have wm:=q6m g
 unfold q6k at h
 simp only[Bool.and_eq_true,Bool.not_eq_true',decide_eq_false_iff_not]at h
 obtain⟨hg,h16,hv0,hv1⟩:=h
 rw[hg]at wm
 obtain⟨g1,g2,g3,g4,g5,g6,g7,g8⟩:=g.of_may hg
 obtain⟨q1,q2,q3⟩:=z8a hg
 obtain⟨m1,m2,m3,m4,m5⟩:=q9e (by unfold GeoV.may at hg;rw[Bool.and_eq_true]at hg;exact hg.1)
 have hX:=m5
 obtain⟨N,hN⟩:∃ N,N=g.secs:=⟨_,rfl⟩
 have hnv:IntKind.i64.wrap (IntKind.i64.wrap (4+IntKind.i64.wrap (2*g.w))+IntKind.i64.wrap (IntKind.i64.wrap (2*g.s)*IntKind.i64.wrap (g.k+g.m)))=(N:Int):=by
  rw[hN,x9 (2*g.w) (by omega) (by omega),x9 (4+2*g.w) (by omega) (by omega),x9 (2*g.s) (by omega) (by omega),x9 (g.k+g.m) (by omega) (by omega),x9 (2*g.s*(g.k+g.m)) (by omega) (by omega),x9 _ (by omega) (by omega),q1]
 have n1:=v4g N (by omega) (by omega)
 have okD:=w4t vol (v4p N 0)
 refine u9 hT z4g rfl rfl z4h rfl ?_
 refine q8 (q7 hT ?_)
 refine Q8 (Q6 0 g.pv rfl rfl) ?_
 refine q8 (q7 hT ?_)
 refine x8 (u5 wm _ rfl rfl) ?_
 refine y8 ⟨⟨67,[(0,i64 vol),(3,.p (.box g.pv))]⟩,[]⟩ True (q8 (q7 hT ?_)) (fun _=>?_)
 ·refine x7 (fun h=>?_) (fun _=>?_)
  ·have h:=of_decide_eq_true (show decide (g.w > 16)=true from h)
   omega
  refine x7 (fun h=>?_) (fun _=>?_)
  ·have h:=of_decide_eq_true (show decide (vol<0)=true from h)
   omega
  refine z6 (x7 (fun h=>?_) (fun _=>?_))
  ·have h:=of_decide_eq_true (show decide (vol > 4294967295)=true from h)
   omega
  exact z9 ⟨q9 [] [0,3] rfl,trivial⟩
 refine y8 ⟨⟨67,[(0,i64 vol),(6,i64 N)]⟩,[]⟩ True (q7 hT ?_) (fun _=>?_)
 ·rw[← hnv]
  exact⟨q9 [] [0,6] rfl,trivial⟩
 clear hnv
 refine y8 ⟨⟨67,[(0,i64 vol),(6,i64 N),(7,.ref 0 0)]⟩,Z5 (Dev.new N)⟩ True (q7 hT ?_) (fun _=>?_)
 ·refine x8 n1 ?_
  exact⟨q9 [0,1,2] [0,6,7] rfl,trivial⟩
 have eB:q5b vol g=(wrK vol (Dev.new N) N).flush.2:=by rw[hN];rfl
 refine y8 ⟨⟨67,[(7,.ref 0 0)]⟩,Z5 (wrK vol (Dev.new N) N)⟩ True (q8 (q7 hT ?_)) (fun _=>?_)
 ·refine z7 ?_
  refine w7 (fun n st=>∃ (k:Nat) (j:Int) (E:Dev),n+k=N∧j=k∧E=wrK vol (Dev.new N) k∧st=⟨⟨67,[(0,i64 vol),(6,i64 N),(7,.ref 0 0),(9,i64 j)]⟩,Z5 E⟩) N ⟨⟨67,_⟩,_⟩ (q9 [0,1,2] [0,6,7,9] rfl) ⟨0,0,_,rfl,rfl,rfl,rfl⟩ ?_
  rintro n st ⟨k,j,E,hnk,hj,hE,rfl⟩
  have hEo:E.Ok (0+k):=by rw[hE];exact okD k
  refine q8 (q8 (q7 hT ?_))
  refine z6 (x7 (fun h=>?_) (fun h=>?_))
  ·have h:=of_decide_eq_true (show decide (j<(N:Int))=true from h)
   have ws:=w4a ⟨1,vol,j,0,0,[]⟩
   have eS:(Blk.mk 1 vol j 0 0 []).sld.1=U4 vol k:=by rw[hj];rfl
   have eE:wrK vol (Dev.new N) (k+1)=(E.write j (U4 vol k)).2:=by rw[hE,hj];rfl
   have ww:=y6g E j (U4 vol k) (by have:=hEo.wl;omega)
   rw[eS]at ws
   generalize (Blk.mk 1 vol j 0 0 []).sld.2=e at ws
   generalize U4 vol k=s at ws ww eE
   generalize E.write j s=Y at ww eE
   obtain⟨f,F⟩:=Y
   have ww:AFm Tryz.prog 1 q7t [.ref 0 0,i64 j,bA s] (Z5 E) (Q0 (i64 f) (Z5 F)):=ww
   have eE:wrK vol (Dev.new N) (k+1)=F:=eE
   refine z9 ?_
   refine y8 ⟨⟨67,[(0,i64 vol),(6,i64 N),(7,.ref 0 0),(9,i64 j)]⟩,Z5 F⟩ True (z7 (q8 (q7 hT ?_))) (fun _=>?_)
   ·refine x8 (w8u (u5 ws _ rfl rfl) ⟨.inl rfl,.inl rfl,.inl rfl,.inl rfl,.inl rfl,.inr ⟨rfl,1,rfl⟩,trivial⟩) ?_
    refine q7 hT ?_
    refine x8 (Q1 [0,1,2] ww rfl rfl rfl) ?_
    exact⟨q9 [0,3,4] [0,6,7,9] rfl,trivial⟩
   ·refine q7 hT ?_
    refine⟨n - 1,by omega,_,q9 [0,1,2] [0,6,7,9] rfl,k+1,IntKind.i64.wrap (j+1),F,by omega,?_,eE.symm,rfl⟩
    rw[x9 _ (by omega) (by omega),hj];rfl
  ·have h:=of_decide_eq_false (show decide (j<(N:Int))=false from h)
   have hk:k=N:=by omega
   rw[hk]at hE
   rw[← hE]
   refine u0 ?_
   exact⟨q9 [0,1,2] [7] rfl,trivial⟩
 have okN:=okD N
 have wf:=y6e (wrK vol (Dev.new N) N) okN.at_ (by have:=okN.wl;omega)
 rw[← eB]at wf
 generalize (wrK vol (Dev.new N) N).flush.1=f at wf
 generalize q5b vol g=B at wf
 refine q8 (q7 hT ?_)
 refine x8 (Q1 [0,1,2] wf rfl rfl rfl) ?_
 refine q8 (q7 hT ?_)
 refine x6 ?_
 exact y9 [0,3,4] ⟨rfl,rfl⟩ rfl
theorem y0j (vol:Int)(hv:X2 vol=true)(a:Nat)(ha:a≤4294967295):U4 vol a=q0i (z7z vol a).all∧U6 (q0i (z7z vol a).all)=(z7z vol a,0)∧(U4 vol a).length=256:=by
 have hn:(z7z vol a).nums=true:=by
  unfold Blk.nums z7z
  simp only[List.all_cons,List.all_nil,Bool.and_eq_true,decide_eq_true_eq]
  have w1:X2 (a:Int)=true:=by unfold X2;simp only[Bool.and_eq_true,decide_eq_true_eq];omega
  exact⟨by decide,hv,w1,by decide,by decide,trivial⟩
 have hb:(z7z vol a).body.length≤228:=Nat.zero_le _
 have e:U4 vol a=q0i (z7z vol a).all:=by
  unfold U4 Blk.sld
  rw[hn,decide_eq_false (show ¬ (z7z vol a).body.length > 228 by omega)]
 refine⟨e,y0c hn hb,?_⟩
 rw[e,q9c,z3i _ hb]
theorem x2c (vol:Int)(hv:X2 vol=true)(N:Nat)(hN:N≤4096):∀ k,k≤N→(wrK vol (Dev.new N) k).cells=(Dev.new N).cells∧(wrK vol (Dev.new N) k).waits=(List.range k).map (fun(a:Nat)=>(⟨(a:Int),U4 vol a⟩:Wr))∧(wrK vol (Dev.new N) k).dead=false∧(wrK vol (Dev.new N) k).armed=false
 |0,_=>⟨rfl,rfl,rfl,rfl⟩
 |k+1,hk=>by
  obtain⟨h1,h2,h3,h4⟩:=x2c vol hv N hN k (by omega)
  have hl:=(y0j vol hv k (by omega)).2.2
  have hc:(Dev.new N).cells[k]?=some cell1:=by
   show (List.replicate N cell1)[k]?=_
   rw[List.getElem?_replicate,if_pos (by omega)]
  show ((wrK vol (Dev.new N) k).write k (U4 vol k)).2.cells=_∧_
  generalize hE:wrK vol (Dev.new N) k=E at h1 h2 h3 h4
  have hh:E.has k=true:=w4q (N:=N) (by rw[h1];show (List.replicate N cell1).length=N;rw[List.length_replicate]) (by omega)
  have hld:E.lives.dead=false:=x5r h3 h4
  have hput:E.lives.count.put k (U4 vol k) = { E.lives.count with waits:=E.waits++[⟨(k:Int),U4 vol k⟩] }:=by
   unfold Dev.put
   rw[Int.toNat_natCast,show E.lives.count.cells[k]?=some cell1 by show E.cells[k]?=_;rw[h1];exact hc]
   rfl
  have e:E.write k (U4 vol k)=(0,{ E.lives.count with waits:=E.waits++[⟨(k:Int),U4 vol k⟩] }):=by
   rw[← hput]
   unfold Dev.write
   rw[h3,hh,show (((U4 vol k).length:Int) != 256)=false by rw[hl];rfl,hld]
  have e2:wrK vol (Dev.new N) (k+1) = { E.lives.count with waits:=E.waits++[⟨(k:Int),U4 vol k⟩] }:=by
   show ((wrK vol (Dev.new N) k).write k (U4 vol k)).2=_
   rw[hE,e]
  rw[e,e2]
  refine⟨h1,?_,hld,h4⟩
  rw[List.range_succ,List.map_append,← h2];rfl
theorem x2d (vol:Int)(cs:List Cell)(hw:∀ c∈cs,c.drop=0∧c.miss=[])(N:Nat)(hN:N≤cs.length):∀ i,i≤N→∀ a,(q1k ((List.range N).map (fun(a:Nat)=>(⟨(a:Int),U4 vol a⟩:Wr))) [true] i cs)[a]?=if a<i then some (q4i (U4 vol a)) else cs[a]?
 |0,_,a=>by rw[if_neg (by omega)];rfl
 |i+1,hi,a=>by
  have ih:=x2d vol cs hw N hN i (by omega)
  have hk:kept [true] i=true:=by
   unfold kept
   rw[show i % [true].length=0 from Nat.mod_one i];rfl
  have hg:((List.range N).map (fun(a:Nat)=>(⟨(a:Int),U4 vol a⟩:Wr))).getD i ⟨0,[]⟩=⟨(i:Int),U4 vol i⟩:=by
   rw[List.getD_eq_getElem?_getD,List.getElem?_map,List.getElem?_range (by omega)];rfl
  have hlen:=q4y ((List.range N).map (fun(a:Nat)=>(⟨(a:Int),U4 vol a⟩:Wr))) [true] cs i
  unfold q1k
  rw[hk,hg]
  show (q1b _ _)[a]?=_
  have hci:(q1k ((List.range N).map (fun(a:Nat)=>(⟨(a:Int),U4 vol a⟩:Wr))) [true] i cs)[i]?=cs[i]?:=by rw[ih i,if_neg (by omega)]
  obtain⟨c,hc⟩:∃ c,cs[i]?=some c:=⟨_,List.getElem?_eq_getElem (by omega)⟩
  have hcw:=hw c (List.mem_of_getElem? hc)
  rw[hc]at hci
  generalize q1k ((List.range N).map (fun(a:Nat)=>(⟨(a:Int),U4 vol a⟩:Wr))) [true] i cs=L at ih hlen hci ⊢
  rw[q6z (x:=⟨(i:Int),U4 vol i⟩) (c:=c) (by show L[((i:Nat):Int).toNat]?=_;rw[Int.toNat_natCast];exact hci)]
  show (L.set ((i:Nat):Int).toNat { c with s:=U4 vol i,lost:=false })[a]?=_
  rw[Int.toNat_natCast,List.getElem?_set]
  by_cases e:i=a
  ·subst e
   rw[if_pos rfl,if_pos (by omega),if_pos (by omega)]
   unfold q4i
   rw[← hcw.1,← hcw.2]
  ·rw[if_neg e,ih a]
   by_cases e2:a<i
   ·rw[if_pos e2,if_pos (by omega)]
   ·rw[if_neg e2,if_neg (by omega)]
theorem x5s (vol:Int)(hv:X2 vol=true)(g:GeoV)(hg:g.may=true):CleanP (q5b vol g) g.secs g.secs∧∀ a,a<g.secs→(q5b vol g).cells[a]?=some (q4i (U4 vol a)):=by
 obtain⟨_,q2,_⟩:=z8a hg
 have okN:=w4t vol (v4p g.secs 0) g.secs
 obtain⟨h1,h2,h3,h4⟩:=x2c vol hv g.secs q2 g.secs (Nat.le_refl _)
 have okF:=okN.flush
 have eB:q5b vol g=(wrK vol (Dev.new g.secs) g.secs).flush.2:=rfl
 rw[← eB,Nat.zero_add]at okF
 generalize wrK vol (Dev.new g.secs) g.secs=E at h1 h2 h3 h4 eB
 have hld:E.lives.dead=false:=x5r h3 h4
 have e:E.flush=(0,E.lives.drain [true]):=by unfold Dev.flush;rw[h3,hld]
 rw[e]at eB
 have hcl:(Dev.new g.secs).cells.length=g.secs:=List.length_replicate
 have hwl:∀ c∈(Dev.new g.secs).cells,c.drop=0∧c.miss=[]:=fun c hc=>by rw[List.eq_of_mem_replicate hc];exact⟨rfl,rfl⟩
 have hcs:(q5b vol g).cells=q1k ((List.range g.secs).map (fun(a:Nat)=>(⟨(a:Int),U4 vol a⟩:Wr))) [true] g.secs (Dev.new g.secs).cells:=by
  rw[eB]
  show q1k E.waits [true] E.waits.length E.cells=_
  rw[h2,h1,List.length_map,List.length_range]
 have hca:=x2d vol (Dev.new g.secs).cells hwl g.secs (by omega) g.secs (Nat.le_refl _)
 have hcell:∀ a,a<g.secs→(q5b vol g).cells[a]?=some (q4i (U4 vol a)):=fun a ha=>by rw[hcs,hca a,if_pos ha]
 have hlen:(q5b vol g).cells.length=g.secs:=by rw[hcs,q4y];exact hcl
 refine⟨⟨okF,by rw[eB];exact hld,by rw[eB];exact h4,by rw[eB];rfl,hlen,fun c hc=>?_⟩,hcell⟩
 obtain⟨i,hi⟩:=List.getElem?_of_mem hc
 have hlt:=(List.getElem?_eq_some_iff.1 hi).1
 rw[hcell i (by omega)]at hi
 obtain rfl:=Option.some.inj hi
 exact⟨rfl,rfl⟩
end Go.Proofs.YtinfbclgkghgaaaGreat.AL
namespace Go.Proofs.YtinfbclgkghgaaaGreat.AL
open Go Go.Proofs Go.Proofs.YtinfbclgkghgaaaGreat.AL.Crc
def v9q (vol:Int)(g:GeoV)(c0:Int)(P:List Pc):Nat→Int
 |0=>c0
 |i+1=>match P[i]? with|some p=>u8b vol g p|none=>c0
def x5t (g:GeoV)(s0:Int)(i:Nat):Int:=(s0+i).tmod g.w
end Go.Proofs.YtinfbclgkghgaaaGreat.AL
namespace Go.Proofs.YtinfbclgkghgaaaGreat.AL
open Go Go.Proofs Go.Proofs.YtinfbclgkghgaaaGreat.AL.Crc
structure CellsP (vol:Int) (g:GeoV) (s0:Int) (P:List Pc) (cs:List Cell):Prop where
 used:∀ (i:Nat) (p:Pc),P[i]?=some p→∀ m:Int,(m=0∨m=1)→cs[(q3k g m (x5t g s0 i)).toNat]?=some (q4i (p.sector vol g m).1)
 free:∀ k m:Int,0≤k→k<g.w→(m=0∨m=1)→(∀ i:Nat,i<P.length→x5t g s0 i≠k)→cs[(q3k g m k).toNat]?=some (q4i (U4 vol (q3k g m k).toNat))
theorem u8e (g:GeoV)(k:Int):q3k g 0 k=4+k:=by unfold q3k;omega
theorem u8f (g:GeoV)(k:Int):q3k g 1 k=4+g.w+k:=by unfold q3k;omega
theorem w4u {p:Pc}{vol:Int}{g:GeoV}{m:Int}(hp:p.may=true)(hg:g.may=true)(hv:X2 vol=true)(m0:0≤m)(m2:m<2):(p.sector vol g m).1.length=256:=by
 rw[(y7i hp hg hv m0 m2).1]
 have:=w6f hp
 show (q0i _).length=256
 rw[q9c,z3i _ (by show (pcB p).length≤228;omega)]
end Go.Proofs.YtinfbclgkghgaaaGreat.AL
namespace Go.Proofs.YtinfbclgkghgaaaGreat.AL
open Go Go.Proofs Go.Proofs.YtinfbclgkghgaaaGreat.AL.Crc
def u8g (s:List Pc):Prop:=s≠[]∧v9n s.length s 0=true∧∀ p∈s,p.of_=s.length
end Go.Proofs.YtinfbclgkghgaaaGreat.AL
namespace Go.Proofs.YtinfbclgkghgaaaGreat.AL
open Go Go.Proofs Go.Proofs.YtinfbclgkghgaaaGreat.AL.Crc
theorem CellsP.all {vol:Int}{g:GeoV}{s0:Int}{P:List Pc}{cs:List Cell}(h:CellsP vol g s0 P cs){k m:Int}(k0:0≤k)(k1:k<g.w)(hm:m=0∨m=1):∃ s,cs[(q3k g m k).toNat]?=some (q4i s):=by
 by_cases e:∃ i:Nat,i<P.length∧x5t g s0 i=k
 ·obtain⟨i,hi,rfl⟩:=e
  exact⟨_,h.used i _ (List.getElem?_eq_getElem hi) m hm⟩
 ·exact⟨_,h.free k m k0 k1 hm fun i hi he=>e ⟨i,hi,he⟩⟩
end Go.Proofs.YtinfbclgkghgaaaGreat.AL
namespace Go.Proofs.YtinfbclgkghgaaaGreat.AL
open Go Go.Proofs Go.Proofs.YtinfbclgkghgaaaGreat.AL.Crc
theorem v0x (n:Nat):x1g (UInt8.ofNat n) (UInt8.ofNat (n / 256)) (UInt8.ofNat (n / 256 ^ 2)) (UInt8.ofNat (n / 256 ^ 3))=BitVec.ofNat 32 n:=by
 apply BitVec.eq_of_getLsbD_eq
 intro i hi
 have h1:i=8*(i / 8)+i % 8:=by omega
 rw[h1,x1h _ _ _ _ (show i / 8<4 by omega) (show i % 8<8 by omega)]
 have key:∀ j,j<4→(wd (UInt8.ofNat (n / 256 ^ j))).getLsbD (i % 8)=(BitVec.ofNat 32 n).getLsbD (8*j+i % 8):=by
  intro j hj
  unfold wd
  rw[BitVec.getLsbD_ofNat,BitVec.getLsbD_ofNat,UInt8.toNat_ofNat',show (256:Nat) ^ j=2 ^ (8*j) by rw[show (256:Nat)=2 ^ 8 from rfl,Nat.pow_mul],show (2:Nat) ^ 8=2 ^ 8 from rfl,Nat.testBit_mod_two_pow,Nat.testBit_div_two_pow,decide_eq_true (show i % 8<32 by omega),decide_eq_true (show i % 8<8 by omega),decide_eq_true (show 8*j+i % 8<32 by omega),Bool.true_and,Bool.true_and,Bool.true_and,Nat.add_comm]
 have h2:i / 8=0∨i / 8=1∨i / 8=2∨i / 8=3:=by omega
 rcases h2 with h|h|h|h <;> rw[h] <;> unfold v7z
 ·have:=key 0 (by omega);rwa [Nat.pow_zero,Nat.div_one]at this
 ·have:=key 1 (by omega);rwa [Nat.pow_one]at this
 ·exact key 2 (by omega)
 ·exact key 3 (by omega)
theorem x2e {p:y7}(hp:q0k p=true):run all1 p=stN 32 all1:=by
 unfold q0k at hp
 split at hp
 ·rename_i h4
  have h4:=of_decide_eq_true h4
  have e:p=p.take (p.length - 4)++leB 4 (sum (p.take (p.length - 4))).toNat:=by
   rw[← eq_of_beq hp,List.take_append_drop]
  generalize p.take (p.length - 4)=m at e
  rw[e,z0h]
  show run (run all1 m) [UInt8.ofNat ((sum m).toNat / 256 ^ 0),UInt8.ofNat ((sum m).toNat / 256 ^ 1),UInt8.ofNat ((sum m).toNat / 256 ^ 2),UInt8.ofNat ((sum m).toNat / 256 ^ 3)]=_
  rw[u7s,Nat.pow_zero,Nat.div_one,Nat.pow_one,v0x,BitVec.ofNat_toNat,BitVec.setWidth_eq]
  congr 1
  show run all1 m ^^^ (run all1 m ^^^ all1)=all1
  rw[← BitVec.xor_assoc,BitVec.xor_self,BitVec.zero_xor]
 ·exact absurd hp (by decide)
def chg (s:y7)(by_:Nat→UInt8)(a:Nat):Nat→y7
 |0=>s
 |k+1=>(chg s by_ a k).set (a+k) ((chg s by_ a k).getD (a+k) 0 ^^^ by_ k)
def chd (by_:Nat→UInt8):Nat→Bool
 |0=>false
 |k+1=>chd by_ k||by_ k != 0
theorem w6t (s:y7)(b:Nat→UInt8)(a:Nat):∀ k,(chg s b a k).length=s.length
 |0=>rfl
 |k+1=>by rw[chg,List.length_set,w6t s b a k]
theorem x5u (l r:y7)(x y:UInt8)(n:Nat)(h:n=l.length):(l++x :: r).set n y=l++y :: r:=by subst h;simp
theorem y3q (l r:y7)(x:UInt8)(n:Nat)(h:n=l.length):(l++x :: r).getD n 0=x:=by subst h;simp
theorem Q2c (l r:y7)(x0 x1 x2 x3:UInt8)(b:Nat→UInt8):chg (l++x0 :: x1 :: x2 :: x3 :: r) b l.length 4=l++(x0 ^^^ b 0) :: (x1 ^^^ b 1) :: (x2 ^^^ b 2) :: (x3 ^^^ b 3) :: r:=by
 have e1:chg (l++x0 :: x1 :: x2 :: x3 :: r) b l.length 1=l++(x0 ^^^ b 0) :: x1 :: x2 :: x3 :: r:=by
  show (l++x0 :: x1 :: x2 :: x3 :: r).set (l.length+0) ((l++x0 :: x1 :: x2 :: x3 :: r).getD (l.length+0) 0 ^^^ b 0)=_
  rw[y3q _ _ _ _ (Nat.add_zero _),x5u _ _ _ _ _ (Nat.add_zero _)]
 have e2:chg (l++x0 :: x1 :: x2 :: x3 :: r) b l.length 2=(l++[x0 ^^^ b 0])++(x1 ^^^ b 1) :: x2 :: x3 :: r:=by
  rw[chg,e1,show l++(x0 ^^^ b 0) :: x1 :: x2 :: x3 :: r=(l++[x0 ^^^ b 0])++x1 :: x2 :: x3 :: r by simp]
  rw[y3q _ _ _ _ (by simp),x5u _ _ _ _ _ (by simp)]
 have e3:chg (l++x0 :: x1 :: x2 :: x3 :: r) b l.length 3=(l++[x0 ^^^ b 0,x1 ^^^ b 1])++(x2 ^^^ b 2) :: x3 :: r:=by
  rw[chg,e2,show (l++[x0 ^^^ b 0])++(x1 ^^^ b 1) :: x2 :: x3 :: r=(l++[x0 ^^^ b 0,x1 ^^^ b 1])++x2 :: x3 :: r by simp]
  rw[y3q _ _ _ _ (by simp),x5u _ _ _ _ _ (by simp)]
 rw[chg,e3,show (l++[x0 ^^^ b 0,x1 ^^^ b 1])++(x2 ^^^ b 2) :: x3 :: r=(l++[x0 ^^^ b 0,x1 ^^^ b 1,x2 ^^^ b 2])++x3 :: r by simp]
 rw[y3q _ _ _ _ (by simp),x5u _ _ _ _ _ (by simp)]
 simp
theorem y0k:∀ l:y7,y9s l l=List.replicate l.length 0
 |[]=>rfl
 |x :: r=>by
  show (x ^^^ x) :: y9s r r=_
  rw[y0k r,UInt8.xor_self];rfl
theorem w1f:∀ (l l' r r':y7),l.length=l'.length→y9s (l++r) (l'++r')=y9s l l'++y9s r r'
 |[],[],r,r',_=>rfl
 |x :: l,y :: l',r,r',h=>by
  show (x ^^^ y) :: y9s (l++r) (l'++r')=_
  rw[w1f l l' r r' (by simpa using h)];rfl
 |[],_ :: _,_,_,h=>by simp at h
 |_ :: _,[],_,_,h=>by simp at h
theorem z8b (x b:UInt8):x ^^^ (x ^^^ b)=b:=by rw[← UInt8.xor_assoc,UInt8.xor_self,UInt8.zero_xor]
theorem v8u {b:Nat→UInt8}(h0:b 0=0)(h1:b 1=0)(h2:b 2=0)(h3:b 3=0):chd b 4=false:=by
 unfold chd chd chd chd chd;rw[h0,h1,h2,h3];rfl
theorem v6n {b:Nat→UInt8}(h:chd b 4=false):b 0=0∧b 1=0∧b 2=0∧b 3=0:=by
 unfold chd chd chd chd chd at h
 simp only[Bool.or_eq_false_iff,bne_eq_false_iff_eq]at h
 exact⟨h.1.1.1.2,h.1.1.2,h.1.2,h.2⟩
theorem v0y {s:y7}(hs:q0k s=true)(hl:s.length=256)(b:Nat→UInt8){a:Nat}(ha:a≤252)(hp:q0k (chg s b a 4)=true):b 0=0∧b 1=0∧b 2=0∧b 3=0:=by
 obtain⟨l,r,x0,x1,x2,x3,rfl,rfl⟩:∃ l r x0 x1 x2 x3,s=l++x0 :: x1 :: x2 :: x3 :: r∧a=l.length:=by
  have h1:(s.drop a).length=256 - a:=by rw[List.length_drop,hl]
  match hd:s.drop a,h1 with
  |x0 :: x1 :: x2 :: x3 :: r,_=>exact⟨s.take a,r,x0,x1,x2,x3,by rw[← hd,List.take_append_drop],by rw[List.length_take];omega⟩
  |[],h=>simp at h;omega
  |[_],h=>simp at h;omega
  |[_,_],h=>simp at h;omega
  |[_,_,_],h=>simp at h;omega
 have h1:=x2e hs
 have h2:=x2e hp
 rw[Q2c]at h2
 have h3:=x9m (l++x0 :: x1 :: x2 :: x3 :: r) (l++(x0 ^^^ b 0) :: (x1 ^^^ b 1) :: (x2 ^^^ b 2) :: (x3 ^^^ b 3) :: r) all1 all1 (by simp)
 rw[h1,h2,BitVec.xor_self,BitVec.xor_self,w1f _ _ _ _ rfl,y0k]at h3
 have e:y9s (x0 :: x1 :: x2 :: x3 :: r) ((x0 ^^^ b 0) :: (x1 ^^^ b 1) :: (x2 ^^^ b 2) :: (x3 ^^^ b 3) :: r)=[b 0,b 1,b 2,b 3]++List.replicate r.length 0:=by
  show (x0 ^^^ (x0 ^^^ b 0)) :: (x1 ^^^ (x1 ^^^ b 1)) :: (x2 ^^^ (x2 ^^^ b 2)) :: (x3 ^^^ (x3 ^^^ b 3)) :: y9s r r=_
  rw[z8b,z8b,z8b,z8b,y0k];rfl
 rw[e,← List.append_assoc]at h3
 exact w8w h3.symm
end Go.Proofs.YtinfbclgkghgaaaGreat.AL
namespace Go.Proofs.YtinfbclgkghgaaaGreat.AL
open Go Go.Proofs Go.Proofs.YtinfbclgkghgaaaGreat.AL.Crc
theorem LiveP.mono {D:Dev}{N b c:Nat}(h:LiveP D N b)(hc:b≤c):LiveP D N c:=⟨h.ok.mono hc,h.dead,h.waits,h.len,h.well⟩
theorem CleanP.mono {D:Dev}{N b c:Nat}(h:CleanP D N b)(hc:b≤c):CleanP D N c:=⟨h.ok.mono hc,h.dead,h.armed,h.waits,h.len,h.well⟩
def y0m (f:Flt)(c:Cell):Cell:=if f.kind=1 then { c with s:=q6c f c.s 4 } else if f.kind=2 then { c with s:=z4j,lost:=false } else { c with lost:=true }
theorem v6p {D:Dev}{N b:Nat}{f:Flt}(h:CleanP D N b)(h0:0≤f.at_)(h1:f.at_<(N:Int))(k1:1≤f.kind)(k3:f.kind≤3)(o0:0≤f.off)(o1:f.off<256) :
 ∃ E,D.fault f=(0,E)∧CleanP E N (b+1)∧E.cells=D.cells.modify f.at_.toNat (y0m f):=by
 have hok:=h.ok.fault f
 have hh:D.has f.at_=true:=by
  have:=w4q h.len (k:=f.at_.toNat) (by omega)
  rwa [show ((f.at_.toNat:Nat):Int)=f.at_ by omega]at this
 have hm:D.may f=0:=by
  unfold Dev.may
  rw[hh]
  simp only
  rw[decide_eq_false (show ¬ f.kind<1 by omega),decide_eq_false (show ¬ f.kind > 5 by omega),decide_eq_false (show ¬ f.off<0 by omega),decide_eq_false (show ¬ f.off≥256 by omega),show (f.kind==4)=false from beq_eq_false_iff_ne.mpr (by omega),show (f.kind==5)=false from beq_eq_false_iff_ne.mpr (by omega)]
  simp
 have hs:D.settle f.at_=D:=by
  unfold Dev.settle;rw[h.waits]
  obtain⟨c,w,ar,de,le,op⟩:=D
  have hw:w=[]:=h.waits
  subst hw;rfl
 have e:D.fault f=(0,D.upd f.at_ (y0m f)):=by
  unfold Dev.fault;rw[hm]
  show (0,D.hurt f)=_
  unfold Dev.hurt
  rw[hs]
  have hk:f.kind=1∨f.kind=2∨f.kind=3:=by omega
  rcases hk with k|k|k
  ·rw[if_pos k]
   congr 2
   funext c
   unfold y0m;rw[if_pos k]
  ·rw[if_neg (by omega),if_pos k]
   congr 2
   funext c
   unfold y0m;rw[if_neg (by omega),if_pos k]
  ·rw[if_neg (by omega),if_neg (by omega),if_pos k]
   congr 2
   funext c
   unfold y0m;rw[if_neg (by omega),if_neg (by omega)]
 rw[e]at hok
 refine⟨_,e,⟨hok,h.dead,h.armed,h.waits,(List.length_modify ..).trans h.len,?_⟩,rfl⟩
 intro c hc
 have hc:c∈D.cells.modify f.at_.toNat (y0m f):=hc
 obtain⟨i,hi⟩:=List.getElem?_of_mem hc
 rw[List.getElem?_modify]at hi
 cases hx:D.cells[i]? with
 |none=>rw[hx]at hi;simp at hi
 |some c0=>
  rw[hx]at hi
  have hw:=h.well c0 (List.mem_of_getElem? hx)
  have hi:some (if f.at_.toNat=i then y0m f c0 else c0)=some c:=hi
  have hi:=Option.some.inj hi
  subst hi
  split
  ·unfold y0m
   split
   ·exact hw
   ·split
    ·exact hw
    ·exact hw
  ·exact hw
theorem w4v:(U6 z4j).2≠0:=by
 have hk:(z7r z4j).sld.2=1:=by decide +kernel
 intro h
 unfold U6 at h
 split at h
 ·exact absurd h (by decide)
 ·split at h
  ·exact absurd h (by decide)
  ·rw[hk]at h
   exact absurd h (by decide)
theorem w1g (f:Flt)(s:y7)(hl:s.length=256)(h0:0≤f.off)(h1:f.off≤252):∀ k,k≤4→q6c f s k=chg s f.m f.off.toNat k
 |0,_=>rfl
 |k+1,hk=>by
  unfold q6c chg
  rw[w1g f s hl h0 h1 k (by omega),hl,decide_eq_true (show f.off+(k:Int)<((256:Nat):Int) by omega)]
def v6q (c:Cell):y7:=match c.lost with|true=>[]|false=>c.s
theorem v8v {f:Flt}{s:y7}(hw:q0k s=true)(hl:s.length=256)(k1:1≤f.kind)(k3:f.kind≤3)(o0:0≤f.off)(o1:f.off≤252)(hm:f.kind=1→chd f.m 4=true):(U6 (v6q (y0m f (q4i s)))).2≠0:=by
 have hk:f.kind=1∨f.kind=2∨f.kind=3:=by omega
 rcases hk with k|k|k
 ·unfold y0m
  rw[if_pos k]
  show (U6 (q6c f s 4)).2≠0
  rw[w1g f s hl o0 o1 4 (Nat.le_refl _)]
  have hn:q0k (chg s f.m f.off.toNat 4)=false:=by
   cases hq:q0k (chg s f.m f.off.toNat 4) with
   |false=>rfl
   |true=>
    obtain⟨b0,b1,b2,b3⟩:=v0y hw hl f.m (by omega) hq
    have:=hm k
    rw[v8u b0 b1 b2 b3]at this
    exact absurd this (by decide)
  have ho:(U6 (chg s f.m f.off.toNat 4)).2=7:=by
   unfold U6
   rw[w6t,hl,hn];rfl
  rw[ho];decide
 ·unfold y0m
  rw[if_neg (by omega),if_pos k]
  exact w4v
 ·unfold y0m
  rw[if_neg (by omega),if_neg (by omega)]
  show (U6 []).2≠0
  decide
theorem q5u (D:Dev)(k:Nat){c:Cell}(h:D.cells[k]?=some c):q4p D k=v6q c:=by
 unfold q4p v6q;rw[h] <;> rfl
theorem w4w {v:Int}(hv:X2 v=true){k:Nat}(hk:k≤4294967295):q0k (U4 v k)=true∧(U4 v k).length=256:=by
 obtain⟨e1,_,e3⟩:=y0j v hv k hk
 exact⟨by rw[e1];exact z0j _,e3⟩
theorem x5v {p:Pc}{vol:Int}{g:GeoV}{m:Int}(hp:p.may=true)(hg:g.may=true)(hv:X2 vol=true)(m0:0≤m)(m2:m<2):q0k (p.sector vol g m).1=true∧(p.sector vol g m).1.length=256:=
 ⟨by rw[(y7i hp hg hv m0 m2).1];exact z0j _,w4u hp hg hv m0 m2⟩
theorem CellsP.whole {vol:Int}{g:GeoV}{s0:Int}{P:List Pc}{cs:List Cell}(h:CellsP vol g s0 P cs)(hg:g.may=true)(hv:X2 vol=true)(hp:∀ (i:Nat) (p:Pc),P[i]?=some p→p.may=true){k m:Int}(k0:0≤k)(k1:k<g.w)(hm:m=0∨m=1) :
 ∃ s,cs[(q3k g m k).toNat]?=some (q4i s)∧q0k s=true∧s.length=256:=by
 obtain⟨g1,g2,_⟩:=g.of_may hg
 by_cases e:∃ i:Nat,i<P.length∧x5t g s0 i=k
 ·obtain⟨i,hi,rfl⟩:=e
  obtain⟨a,b⟩:=x5v (hp i _ (List.getElem?_eq_getElem hi)) hg hv (m:=m) (by omega) (by omega)
  exact⟨_,h.used i _ (List.getElem?_eq_getElem hi) m hm,a,b⟩
 ·have hk:(q3k g m k).toNat≤4294967295:=by
   rcases hm with rfl|rfl
   ·rw[u8e];omega
   ·rw[u8f];omega
  obtain⟨a,b⟩:=w4w hv hk
  exact⟨_,h.free k m k0 k1 hm fun i hi he=>e ⟨i,hi,he⟩,a,b⟩
end Go.Proofs.YtinfbclgkghgaaaGreat.AL
