/- A part of the proof. -/
import Derived.Test.YtkjklhcfgbaceaaGreatScrubL
open Go.Proofs.Tryz renaming prog→k0q
open Option.some renaming inj→k0x
open List renaming getElem?_eq_getElem→k0w,getD_eq_getElem?_getD→k0v,getElem?_append_left→k0s,getElem?_append_right→k1q,getElem?_map→k1z,length_append→k1y,length_map→k1x,getElem_mem→k1w,length_replicate→k2z,mem_of_getElem?→k2x,length_take→k2u,take_add_one→k2t,getElem?_range→k2s,length_range→k3q
open Int renaming toNat_natCast→k0u,natCast_nonneg→k2w
open Nat renaming le_refl→k1v,mul_le_mul_right→k2v
open Bool renaming and_eq_true→k1u
set_option maxHeartbeats 4000000
set_option maxRecDepth 20000
namespace Go.Proofs.YtkjklhcfgbaceaaGreat.AL
open Go Go.Proofs
def byB (S:List x9)(k m:Nat):List x9:=(V2 S k (k+m)).map fun i=>(q0m k m).getD i []
def ofB (S:List x9)(k m:Nat):List x9:=(V2 S k (k+m)).map fun i=>S.getD i []
def z4j (S:List x9)(k m c:Nat):List x9:=(y3y (byB S k m)).map fun a=>Q6 a (ofB S k m) c k
def z0q (S:List x9)(k m c:Nat):List x9 × Int:=match decide ((V2 S k (k+m)).length<k) with
 |true=>([],9)
 |false=>(z4j S k m c++q8u (z4j S k m c) m c,0)
theorem v8u {r:Nat}{L:List x9}(hok:y2f r L=true)(hL:L.length=r)(hr:∀ s∈L,s.length=r):∀ s∈y3y L,s.length=r:=fun s hs=>by
 rw[z0k hL,List.mem_map]at hs
 obtain⟨i,hi,rfl⟩:=hs
 exact(y2g hok hL hr r (k1v _)).2 i (List.mem_range.mp hi)
theorem y7u (L:List x9):(y3y L).length=L.length:=by unfold y3y;rw[k1x,k3q]
theorem w9r (S:List x9)(k m c:Nat)(k1:1≤k)(k4:k≤4)(m1:1≤m)(m3:m≤3)(c1:1≤c)(c2:c≤4096)(hl:S.length=k+m)(hS:∀ s∈S,s.length=0∨s.length=c)
 (hok:(V2 S k (k+m)).length=k→y2f k (byB S k m)=true) :
 AF k0q x7c [.p (.sl 1 (w9 S)),i64 k] [] (Q9 (.tup [.p (.sl 1 (w9 (z0q S k m c).1)),i64 (z0q S k m c).2]) []):=by
 refine AF.mono (R:=fun r H'=>∃ z,z=z0q S k m c∧r=.tup [.p (.sl 1 (w9 z.1)),i64 z.2]∧H'=[]) ?_ (by rintro r H' ⟨z,rfl,rfl,rfl⟩;exact⟨rfl,rfl⟩)
 have eD:z0q S k m c=match decide ((V2 S k (k+m)).length<k) with
  |true=>([],9)
  |false=>(z4j S k m c++q8u (z4j S k m c) m c,0):=rfl
 have hcl:=Y6 S
 have hm:IntKind.i64.wrap ((((w9 S).length:Nat):Int) - (k:Int))=(m:Int):=by rw[Q0 _ (by omega) (by omega)];omega
 have wr:=w6c k m k1 k4 m1 m3
 have hrl:=y2h k m
 have wmay:=v8s S (w9 (q0m k m)) c c1 c2 (by omega) hS
 have wpk:=w9q S (w9 (q0m k m)) (q9i S c) k (by omega) (by omega)
 rw[hl]at wpk
 have hgl:=z0p S k (k+m)
 have hgm:=q6g S k (k+m)
 have hbyE:byB S k m=(V2 S k (k+m)).map fun i=>(q0m k m).getD i []:=rfl
 have hofE:ofB S k m=(V2 S k (k+m)).map fun i=>S.getD i []:=rfl
 have hdE:z4j S k m c=(y3y (byB S k m)).map fun a=>Q6 a (ofB S k m) c k:=rfl
 generalize z0q S k m c=Z at eD
 generalize q9i S c=long at wmay wpk
 generalize z4j S k m c=D at eD hdE
 generalize hby:byB S k m=BY at hbyE hdE hok
 generalize hof:ofB S k m=OF at hofE hdE
 generalize V2 S k (k+m)=G at eD wpk hgl hgm hbyE hofE hok
 have hGc:(((k+m:Nat):Int))=(((w9 S).length:Nat):Int):=by omega
 rw[hGc]at wpk
 have hgi:=w6e G
 have hRc:=Y6 (q0m k m)
 have hRg:=fun(i:Nat) (hi:i<k+m)=>Y5 (k0w (l:=q0m k m) (i:=i) (by rw[hrl];exact hi))
 have hRd:=fun(i:Nat) (hi:i<k+m)=>(show (q0m k m).getD i []=(q0m k m)[i]'(by rw[hrl];exact hi) by rw[k0v,k0w (by rw[hrl];exact hi)];rfl)
 have hrow:=@x1h k m
 rw[← hm]at wr
 generalize hRR:w9 (q0m k m)=R at wr wmay wpk hRg hRc
 refine Q8 hT Tryz.func134 rfl rfl Tryz.ntmps134 rfl ?_
 refine y6 hT ?_
 refine u0 ⟨⟨97,[(0,.p (.sl 1 (w9 S))),(1,i64 k),(6,.p (.sl 1 R)),(7,i64 0)]⟩,[]⟩ True (y7 hT ?_) (fun _=>?_)
 ·refine Q1 (Q5 wr _ rfl rfl) ?_
  exact⟨z8 [] [0,1,6,7] rfl,trivial⟩
 refine u0 ⟨⟨97,[(0,.p (.sl 1 (w9 S))),(1,i64 k),(6,.p (.sl 1 R)),(7,i64 0),(8,.ref 0 0)]⟩,[z0n (w9 S) R 0]⟩ True (y7 hT ?_) (fun _=>?_)
 ·exact⟨z8 [0] [0,1,6,7,8] rfl,trivial⟩
 refine u0 ⟨⟨97,[(0,.p (.sl 1 (w9 S))),(1,i64 k),(6,.p (.sl 1 R)),(8,.ref 0 0)]⟩,[z0n (w9 S) R long]⟩ True (y6 hT ?_) (fun _=>?_)
 ·refine Q1 (Z7 [0] wmay rfl rfl rfl) ?_
  refine y8 ?_
  exact x7 ⟨z8 [0] [0,1,6,8] rfl,trivial⟩
 refine u0 ⟨⟨97,[(0,.p (.sl 1 (w9 S))),(1,i64 k),(6,.p (.sl 1 R)),(9,.p (.sl 1 (ixN G)))]⟩,[]⟩ True (y7 hT ?_) (fun _=>?_)
 ·refine Q1 (Z7 [0] wpk rfl rfl rfl) ?_
  exact⟨z8 [] [0,1,6,9] rfl,trivial⟩
 refine u0 ⟨⟨97,[(0,.p (.sl 1 (w9 S))),(1,i64 k),(6,.p (.sl 1 R)),(9,.p (.sl 1 (ixN G)))]⟩,[]⟩ (G.length=k) (y6 hT ?_) ?_
 ·refine y8 (u9 (fun h=>?_) (fun h=>?_))
  ·have h:=k0z (show decide ((((ixN G).length:Nat):Int)<(k:Int))=true from h)
   rw[k1t (show G.length<k by omega)]at eD
   refine y6 hT ?_
   refine Z3 (q0a 4 1 rfl) ?_
   refine u5 ?_
   exact x8 [] ⟨([],9),eD.symm,rfl,rfl⟩ rfl
  ·have h:=k0y (show decide ((((ixN G).length:Nat):Int)<(k:Int))=false from h)
   exact x7 ⟨z8 [] [0,1,6,9] rfl,by omega⟩
 intro hGk
 rw[k1s (show ¬ G.length<k by omega)]at eD
 have hok:=hok hGk
 have hBl:BY.length=k:=by rw[hbyE,k1x,hGk]
 have hOl:OF.length=k:=by rw[hofE,k1x,hGk]
 have hBr:∀ s∈BY,s.length=k:=fun s hs=>by
  rw[hbyE,List.mem_map]at hs
  obtain⟨i,hi,rfl⟩:=hs
  have hi2:=(hgm i hi).1
  rw[hRd i hi2]
  exact hrow _ (k1w _)
 have hOr:∀ s∈OF,s.length=c:=fun s hs=>by
  rw[hofE,List.mem_map]at hs
  obtain⟨i,hi,rfl⟩:=hs
  obtain⟨hi2,hi3⟩:=hgm i hi
  have hm2:S.getD i []∈S:=by
   rw[k0v,k0w (show i<S.length by omega)]
   exact k1w _
  have:=hS _ hm2
  omega
 have hil:(y3y BY).length=k:=(y7u BY).trans hBl
 have wi:=v5r BY (by omega) (by omega) (by rw[hBl];exact hBr) (by rw[hBl];exact hok)
 have wx:=w9j (y3y BY) OF k c (by omega) (by omega) k1 (by omega) c1 c2 (v8u hok hBl hBr) hOl hOr
 rw[← hdE,hil]at wx
 have hDl:D.length=k:=by rw[hdE,k1x,hil]
 have hDr:∀ s∈D,s.length=c:=fun s hs=>by
  rw[hdE,List.mem_map]at hs
  obtain⟨a,_,rfl⟩:=hs
  exact X3 a hOr (by omega)
 have we:=y7r D m c (by omega) (by omega) m1 m3 c1 c2 hDr
 rw[hDl,← hm]at we
 have hEl:(q8u D m c).length=m:=by unfold q8u;rw[k1x,z0m]
 generalize q8u D m c=E at eD we hEl
 generalize y3y BY=V at wi wx
 clear hok hil hdE
 refine u0 ⟨⟨97,[(0,.p (.sl 1 (w9 S))),(1,i64 k),(6,.p (.sl 1 R)),(9,.p (.sl 1 (ixN G))),(10,.msl 0 1 0 0),(11,.msl 1 1 0 0)]⟩,[.row y9 1 [],.row y9 1 []]⟩ True (y7 hT ?_) (fun _=>?_)
 ·exact⟨Wk.trans (W8 y9 1) (Wk.trans (W8 y9 1) (Wk.trans (q3u 10 0 1 0 rfl) (Wk.trans (q3u 11 1 1 0 rfl) (z8 [0,1] [0,1,6,9,10,11] rfl)))),trivial⟩
 refine u0 ⟨⟨97,[(0,.p (.sl 1 (w9 S))),(1,i64 k),(10,.msl 0 1 0 (w9 BY).length),(11,.msl 1 1 0 (w9 OF).length)]⟩,[.row y9 1 (w9 BY),.row y9 1 (w9 OF)]⟩ True (y6 hT ?_) (fun _=>?_)
 ·refine x3 ?_
  refine Q3 (fun n s=>∃ (i:Nat) (j:Int) (X Y:List x9),n+i=k∧j=i∧X=BY.take i∧Y=OF.take i∧s=⟨⟨97,[(0,.p (.sl 1 (w9 S))),(1,i64 k),(6,.p (.sl 1 R)),(10,.msl 0 1 0 (w9 X).length),(11,.msl 1 1 0 (w9 Y).length),(48,.p (.sl 1 (ixN G))),(49,i64 (ixN G).length),(50,i64 j)]⟩,[.row y9 1 (w9 X),.row y9 1 (w9 Y)]⟩) k ⟨⟨97,_⟩,_⟩ (z8 [0,1] [0,1,6,10,11,48,49,50] rfl) ⟨0,0,[],[],by omega,rfl,rfl,rfl,rfl⟩ ?_
  rintro n s ⟨i,j,X,Y,hni,hj,hX,hY,rfl⟩
  refine y6 hT ?_
  refine u6 (y8 (u9 (fun h=>?_) (fun h=>?_)))
  ·have h:=k0z (show decide (j<(((ixN G).length:Nat):Int))=true from h)
   have hi:i<G.length:=by omega
   refine x7 ?_
   have hg:=k0w hi
   have hgi2:=(hgm _ (k1w hi)).1
   have hby2:BY[i]?=some ((q0m k m).getD G[i] []):=by rw[hbyE,k1z,hg];rfl
   have hof2:OF[i]?=some (S.getD G[i] []):=by rw[hofE,k1z,hg];rfl
   generalize G[i]=a at hg hgi2 hby2 hof2
   have hSa:=k0w (show a<S.length by omega)
   rw[k0v,hSa]at hof2
   have hof2:OF[i]?=some S[a]:=hof2
   have hSl:=hOr _ (k2x hof2)
   generalize S[a]=sa at hSa hof2 hSl
   have hRa:=hRg a hgi2
   rw[← hRd a hgi2]at hRa
   generalize (q0m k m).getD a []=ra at hby2 hRa
   have hX2:BY.take (i+1)=X++[ra]:=by rw[k2t,hby2,hX];rfl
   have hY2:OF.take (i+1)=Y++[sa]:=by rw[k2t,hof2,hY];rfl
   have hXl:(w9 X).length≤64:=by rw[Y6,hX,k2u];omega
   have hYl:(w9 Y).length≤64:=by rw[Y6,hY,k2u];omega
   have hgp:(ixN G)[j.toNat]?=some [.raw (.int .i64 (a:Int))]:=by rw[hj,k0u];exact v8t hg
   have hRp:R[((a:Nat):Int).toNat]?=some [bP ra]:=by rw[k0u];exact hRa
   have hSp:(w9 S)[((a:Nat):Int).toNat]?=some [bP sa]:=by rw[k0u];exact Y5 hSa
   have wc:=z0f sa (by omega)
   refine Q4 (fun st=>∃ X' Y':List x9,X'=X++[ra]∧Y'=Y++[sa]∧st=⟨⟨97,[(0,.p (.sl 1 (w9 S))),(1,i64 k),(6,.p (.sl 1 R)),(10,.msl 0 1 0 (w9 X').length),(11,.msl 1 1 0 (w9 Y').length),(48,.p (.sl 1 (ixN G))),(49,i64 (ixN G).length),(50,i64 j)]⟩,[.row y9 1 (w9 X'),.row y9 1 (w9 Y')]⟩) (x3 (y6 hT ?_)) ?_
   ·refine⟨by omega,Z2 hgp ?_⟩
    refine Z0 [6,14] [5,13] hT u7 (by rfl) ?_
    refine⟨by omega,Z2 hRp ?_⟩
    refine⟨⟨rfl,rfl⟩,?_⟩
    refine⟨rfl,⟨?_,?_⟩,?_⟩
    ·show ((w9 X).length+1)*24≤_
     omega
    ·show (w9 X).length+1≤_
     omega
    refine⟨by omega,Z2 hSp ?_⟩
    refine⟨_,Q5 wc _ rfl rfl,?_⟩
    refine⟨⟨rfl,rfl⟩,?_⟩
    refine⟨rfl,⟨?_,?_⟩,?_⟩
    ·show ((w9 Y).length+1)*24≤_
     omega
    ·show (w9 Y).length+1≤_
     omega
    repeat first|refine⟨rfl,?_⟩|refine⟨⟨by omega,Z2 hRp rfl⟩,?_⟩|refine⟨⟨by omega,Z2 hSp rfl⟩,?_⟩|refine⟨⟨_,Q5 wc _ rfl rfl,rfl⟩,?_⟩
    exact⟨_,z8 [2,3] [0,1,6,10,11,48,49,50] rfl,_,_,rfl,rfl,by rw[q4u,q4u];rfl⟩
   ·rintro _ ⟨X',Y',rfl,rfl,rfl⟩
    refine y7 hT ?_
    exact⟨n - 1,by omega,_,z8 [0,1] [0,1,6,10,11,48,49,50] rfl,i+1,IntKind.i64.wrap (j+1),_,_,by omega,by rw[Q0 _ (by omega) (by omega)];omega,hX2.symm,hY2.symm,rfl⟩
  ·have h:=k0y (show decide (j<(((ixN G).length:Nat):Int))=false from h)
   rw[List.take_of_length_le (by omega)]at hX hY
   rw[hX,hY]
   refine Q7 ?_
   exact⟨z8 [0,1] [0,1,10,11] rfl,trivial⟩
 refine Z3 (q1d 10 0 _ rfl rfl rfl rfl) ?_
 refine Z3 (q1d 11 1 _ rfl rfl rfl rfl) ?_
 refine u0 ⟨⟨97,[(0,.p (.sl 1 (w9 S))),(1,i64 k),(7,i64 0),(11,.p (.sl 1 (w9 OF))),(14,.p (.sl 1 (w9 V)))]⟩,[]⟩ True (y7 hT ?_) (fun _=>?_)
 ·refine Q1 (Q5 wi _ rfl rfl) ?_
  exact⟨z8 [] [0,1,7,11,14] rfl,trivial⟩
 refine u6 (y6 hT ?_)
 refine y8 ?_
 refine x7 ?_
 refine u0 ⟨⟨97,[(0,.p (.sl 1 (w9 S))),(1,i64 k),(15,.msl 0 1 0 k)]⟩,[.row y9 1 (w9 D)]⟩ True (y7 hT ?_) (fun _=>?_)
 ·refine Q1 wx ?_
  exact⟨z8 [0] [0,1,15] rfl,trivial⟩
 refine u0 ⟨⟨97,[(7,i64 0),(15,.msl 0 1 0 k),(17,.p (.sl 1 (w9 E)))]⟩,[.row y9 1 (w9 D)]⟩ True (y7 hT ?_) (fun _=>?_)
 ·refine Q1 (Z7 [0] we rfl rfl rfl) ?_
  exact⟨z8 [0] [7,15,17] rfl,trivial⟩
 have hDc:=Y6 D
 have hEc:=Y6 E
 refine y6 hT ?_
 refine⟨by omega,⟨by show ((w9 D).length+(w9 E).length)*24≤_;omega,by omega⟩,?_⟩
 refine Z3 (q1d 4 1 _ rfl rfl rfl rfl) ?_
 refine u5 ?_
 exact x8 [] ⟨(D++E,0),eD.symm,(by show AV.tup [.p (.sl 1 (w9 D++w9 E)),i64 0]=_;rw[← q4u]),rfl⟩ rfl
end Go.Proofs.YtkjklhcfgbaceaaGreat.AL
/- Plain: elimination of rows whose kernel is trivial comes to the unit. -/
namespace Go.Proofs.YtkjklhcfgbaceaaGreat.AL
open Go Go.Proofs
def q2y (a:x9)(x:Nat→UInt8):Nat→UInt8
 |0=>0
 |n+1=>q2y a x n ^^^ Gf.mul (a.getD n 0) (x n)
theorem y7v {to row:x9}(q:UInt8)(h:to.length=row.length)(n:Nat):(q2b to row q).getD n 0=to.getD n 0 ^^^ Gf.mul q (row.getD n 0):=by
 unfold q2b
 rw[k0v,List.getElem?_zipWith,k0v,k0v]
 by_cases hn:n<to.length
 ·rw[k0w hn,k0w (h ▸ hn)];rfl
 ·rw[List.getElem?_eq_none (by omega),List.getElem?_eq_none (by omega)]
  show (0:UInt8)=0 ^^^ Gf.mul q 0
  rw[Gf.mul_zero];rfl
theorem y7w (z:UInt8)(t:x9)(n:Nat):(q1s z t).getD n 0=Gf.mul z (t.getD n 0):=by
 unfold q1s
 rw[k0v,k1z,k0v]
 cases t[n]? with
 |none=>show (0:UInt8)=Gf.mul z 0;rw[Gf.mul_zero]
 |some v=>exact Gf.mul_comm _ _
theorem u2b (a b c d:UInt8):a ^^^ b ^^^ (c ^^^ d)=a ^^^ c ^^^ (b ^^^ d):=by
 rw[UInt8.xor_assoc,UInt8.xor_assoc,← UInt8.xor_assoc b,UInt8.xor_comm b c,UInt8.xor_assoc c]
theorem q9j {a b:UInt8}(h:a ^^^ b=0):a=b:=by
 have:a ^^^ b ^^^ b=b:=by rw[h,UInt8.zero_xor]
 rwa [UInt8.xor_assoc,UInt8.xor_self,UInt8.xor_zero]at this
theorem y4k {to row:x9}(q:UInt8)(h:to.length=row.length)(x:Nat→UInt8):∀ n,q2y (q2b to row q) x n=q2y to x n ^^^ Gf.mul q (q2y row x n)
 |0=>by show (0:UInt8)=0 ^^^ Gf.mul q 0;rw[Gf.mul_zero];rfl
 |n+1=>by
  show q2y _ x n ^^^ Gf.mul ((q2b to row q).getD n 0) (x n)=_
  rw[y4k q h x n,y7v q h,Gf.xor_mul,u2b,Gf.mul_assoc,← Gf.mul_xor];rfl
theorem z2c (z:UInt8)(t:x9)(x:Nat→UInt8):∀ n,q2y (q1s z t) x n=Gf.mul z (q2y t x n)
 |0=>by show (0:UInt8)=Gf.mul z 0;rw[Gf.mul_zero]
 |n+1=>by
  show q2y _ x n ^^^ Gf.mul ((q1s z t).getD n 0) (x n)=_
  rw[z2c z t x n,y7w,Gf.mul_assoc,← Gf.mul_xor];rfl
theorem z4k {a:x9}{i:Nat}(x:Nat→UInt8):∀ {n},(∀ j,j<n→a.getD j 0=if i=j then 1 else 0)→q2y a x n=if i<n then x i else 0
 |0,_=>by rw[if_neg (by omega)];rfl
 |n+1,h=>by
  show q2y a x n ^^^ Gf.mul (a.getD n 0) (x n)=_
  rw[z4k x (n:=n) fun j hj=>h j (by omega),h n (by omega)]
  by_cases e:i=n
  ·subst e
   rw[if_pos rfl,if_neg (by omega),if_pos (by omega),Gf.one_mul,UInt8.zero_xor]
  ·rw[if_neg e,Gf.zero_mul,UInt8.xor_zero]
   by_cases hi:i<n
   ·rw[if_pos hi,if_pos (by omega)]
   ·rw[if_neg hi,if_neg (by omega)]
theorem x8u {a:x9}{x:Nat→UInt8}{c:Nat}:∀ {n},c≤n→(∀ j,c≤j→j<n→x j=0)→q2y a x n=q2y a x c
 |0,h,_=>by rw[show c=0 by omega]
 |n+1,h,hz=>by
  by_cases e:c=n+1
  ·rw[e]
  ·show q2y a x n ^^^ Gf.mul (a.getD n 0) (x n)=_
   rw[x8u (n:=n) (by omega) fun j h1 h2=>hz j h1 (by omega),hz n (by omega) (by omega),Gf.mul_zero,UInt8.xor_zero]
theorem x1i {to row:x9}(h:to.length=row.length):q2b to row 0=to:=by
 refine List.ext_getElem? fun n=>?_
 unfold q2b
 rw[List.getElem?_zipWith]
 by_cases hn:n<to.length
 ·rw[k0w hn,k0w (h ▸ hn)]
  show some (to[n] ^^^ Gf.mul 0 _)=_
  rw[Gf.zero_mul,UInt8.xor_zero]
 ·rw[List.getElem?_eq_none (by omega)]
theorem v9z (M:U5)(c p:Nat):swp M c p c=M p:=by unfold swp;rw[Nat.beq_refl]
theorem y7x (M:U5)(c p i:Nat):swp M c p i=M (if i=c then p else if i=p then c else i):=by
 unfold swp
 cases h:Nat.beq i c with
 |true=>rw[if_pos (Nat.eq_of_beq_eq_true h)]
 |false=>
  rw[if_neg (Nat.ne_of_beq_eq_false h)]
  cases h:Nat.beq i p with
  |true=>rw[if_pos (Nat.eq_of_beq_eq_true h)]
  |false=>rw[if_neg (Nat.ne_of_beq_eq_false h)]
theorem v8v {r c p:Nat}(hc:c<r)(hp:p<r){M N:U5}{Q:x9→x9→Prop}(h:∀ i,i<r→Q (swp M c p i) (swp N c p i)):∀ i,i<r→Q (M i) (N i):=fun i hi=>by
 have:=h (if i=c then p else if i=p then c else i) (by split;exact hp;split;exact hc;exact hi)
 rw[y7x,y7x]at this
 have e:(if (if i=c then p else if i=p then c else i)=c then p else if (if i=c then p else if i=p then c else i)=p then c else (if i=c then p else if i=p then c else i))=i:=by
  by_cases a:i=c
  ·rw[if_pos a]
   by_cases b:p=c
   ·rw[if_pos b];omega
   ·rw[if_neg b,if_pos rfl];exact a.symm
  ·rw[if_neg a]
   by_cases b:i=p
   ·rw[if_pos b,if_pos rfl];exact b.symm
   ·rw[if_neg b,if_neg a,if_neg b]
 rwa [e]at this
theorem v5w {r c p:Nat}(hc:c<r)(hp:p<r){M N:U5}{Q:x9→x9→Prop}(h:∀ i,i<r→Q (M i) (N i)):∀ i,i<r→Q (swp M c p i) (swp N c p i):=fun i hi=>by
 rw[y7x,y7x]
 exact h _ (by split;exact hp;split;exact hc;exact hi)
theorem x4q (M:U5)(c:Nat)(v:x9)(i:Nat):q2p M c v i=if i=c then v else M i:=by
 unfold q2p
 cases h:Nat.beq i c with
 |true=>rw[if_pos (Nat.eq_of_beq_eq_true h)]
 |false=>rw[if_neg (Nat.ne_of_beq_eq_false h)]
theorem w3n {r c k:Nat}(hk:k<r)(hc:c<r){G:U5 × U5}(h1:J2 r G.1)(h2:J2 r G.2)(i:Nat) :
 (q1t c k G).1 i=(if i=k∧i≠c then q2b (G.1 k) (G.1 c) ((G.1 k).getD c 0) else G.1 i)∧(q1t c k G).2 i=(if i=k∧i≠c then q2b (G.2 k) (G.2 c) ((G.1 k).getD c 0) else G.2 i):=by
 unfold q1t
 cases e1:Nat.beq k c with
 |true=>
  have:=Nat.eq_of_beq_eq_true e1
  rw[if_neg (by omega),if_neg (by omega)]
  exact⟨rfl,rfl⟩
 |false=>
  have hkc:=Nat.ne_of_beq_eq_false e1
  cases e2:((G.1 k).getD c 0 != 0) with
  |true=>
   show q2p _ _ _ i=_∧q2p _ _ _ i=_
   rw[x4q,x4q]
   by_cases h:i=k
   ·rw[if_pos h,if_pos h,if_pos ⟨h,by omega⟩,if_pos ⟨h,by omega⟩];exact⟨rfl,rfl⟩
   ·rw[if_neg h,if_neg h,if_neg (by omega),if_neg (by omega)];exact⟨rfl,rfl⟩
  |false=>
   have e2:(G.1 k).getD c 0=0:=by simpa using e2
   show G.1 i=_∧G.2 i=_
   rw[e2,x1i (by rw[h1 k hk,h1 c hc]),x1i (by rw[h2 k hk,h2 c hc])]
   by_cases h:i=k
   ·subst h
    rw[if_pos ⟨rfl,hkc⟩,if_pos ⟨rfl,hkc⟩];exact⟨rfl,rfl⟩
   ·rw[if_neg (by omega),if_neg (by omega)];exact⟨rfl,rfl⟩
theorem y4m {r c:Nat}(hc:c<r){G:U5 × U5}(h1:J2 r G.1)(h2:J2 r G.2):∀ n,n≤r→∀ i,
 (elS c G n).1 i=(if i<n∧i≠c then q2b (G.1 i) (G.1 c) ((G.1 i).getD c 0) else G.1 i)∧(elS c G n).2 i=(if i<n∧i≠c then q2b (G.2 i) (G.2 c) ((G.1 i).getD c 0) else G.2 i)
 |0,_,i=>by rw[if_neg (by omega),if_neg (by omega)];exact⟨rfl,rfl⟩
 |n+1,hn,i=>by
  obtain⟨l1,l2⟩:=z2b hc h1 h2 n (by omega)
  obtain⟨a,b⟩:=w3n (show n<r by omega) hc l1 l2 i
  obtain⟨n1,n2⟩:=y4m hc h1 h2 n (by omega) n
  obtain⟨c1,c2⟩:=y4m hc h1 h2 n (by omega) c
  obtain⟨i1,i2⟩:=y4m hc h1 h2 n (by omega) i
  rw[if_neg (by omega)]at n1 n2 c1 c2
  show (q1t c n (elS c G n)).1 i=_∧(q1t c n (elS c G n)).2 i=_
  rw[a,b,n1,n2,c1,c2]
  by_cases h:i=n∧i≠c
  ·rw[if_pos h,if_pos h,if_pos (by omega),if_pos (by omega),h.1];exact⟨rfl,rfl⟩
  ·rw[if_neg h,if_neg h,i1,i2]
   by_cases h':i<n∧i≠c
   ·rw[if_pos h',if_pos h',if_pos (by omega),if_pos (by omega)];exact⟨rfl,rfl⟩
   ·rw[if_neg h',if_neg h',if_neg (by omega),if_neg (by omega)];exact⟨rfl,rfl⟩
theorem w3p {r c p:Nat}(hc:c<r)(hp:p<r){G:U5 × U5}(h1:J2 r G.1)(h2:J2 r G.2)(hpv:q2c G.1 r c=p)(z:UInt8)(hz:z=Gf.inv ((G.1 p).getD c 0))(_hz1:Gf.mul ((G.1 p).getD c 0) z=1):∀ i,i<r →
 (q3i r c G).1 i=(if i=c then q1s z (swp G.1 c p c) else q2b (swp G.1 c p i) (q1s z (swp G.1 c p c)) ((swp G.1 c p i).getD c 0)) ∧
 (q3i r c G).2 i=(if i=c then q1s z (swp G.2 c p c) else q2b (swp G.2 c p i) (q1s z (swp G.2 c p c)) ((swp G.1 c p i).getD c 0)):=fun i hi=>by
 have s1:=q2v h1 hc hp
 have s2:=q2v h2 hc hp
 have e:q9z r c G=(swp G.1 c p,swp G.2 c p):=by unfold q9z;rw[hpv,k0u]
 have e2:z5u c (q9z r c G)=(q2p (swp G.1 c p) c (q1s z (swp G.1 c p c)),q2p (swp G.2 c p) c (q1s z (swp G.2 c p c))):=by
  rw[e,hz,← v9z G.1 c p];rfl
 have t1:=q1p s1 c (v:=q1s z (swp G.1 c p c)) (by rw[q0w];exact s1 c hc)
 have t2:=q1p s2 c (v:=q1s z (swp G.2 c p c)) (by rw[q0w];exact s2 c hc)
 unfold q3i
 rw[e2]
 have hr:=y4m hc (G:=(q2p (swp G.1 c p) c (q1s z (swp G.1 c p c)),q2p (swp G.2 c p) c (q1s z (swp G.2 c p c)))) t1 t2 r (k1v _) i
 simp only[x4q,if_pos]at hr
 rw[hr.1,hr.2]
 by_cases h:i=c
 ·simp only[h,ne_eq,not_true,and_false,if_false,if_true,and_self]
 ·simp only[h,hi,ne_eq,not_false_eq_true,and_self,if_false,if_true]
def z2d (r:Nat)(M:U5)(x:Nat→UInt8):Prop:=∀ i,i<r→q2y (M i) x r=0
structure ElI (r:Nat) (L:List x9) (c:Nat) (G:U5 × U5):Prop where
 len1:J2 r G.1
 len2:J2 r G.2
 unit:∀ i,i<r→∀ j,j<c→(G.1 i).getD j 0=if i=j then 1 else 0
 ker:∀ x,z2d r G.1 x→z2d r (fun i=>L.getD i []) x
 val:∀ x y,(∀ i,i<r→q2y (L.getD i []) x r=y i)→∀ i,i<r→q2y (G.1 i) x r=q2y (G.2 i) y r
theorem w6f (M:U5)(c:Nat):∀ n i,¬ 0≤q8k M c n i→∀ p,i≤p→p<i+n→(M p).getD c 0=0
 |0,i,_,p,h1,h2=>by omega
 |n+1,i,h,p,h1,h2=>by
  unfold q8k at h
  cases hm:(M i).getD c 0 != 0 with
  |true=>rw[hm]at h;exact absurd (show (0:Int)≤i by omega) h
  |false=>
   rw[hm]at h
   by_cases e:i=p
   ·subst e;simpa using hm
   ·exact w6f M c n (i+1) h p (by omega) (by omega)
theorem x8v {r c:Nat}(hc:c<r){L:List x9}{G:U5 × U5}(hI:ElI r L c G)(hk:∀ x,z2d r (fun i=>L.getD i []) x→∀ j,j<r→x j=0):0≤q2c G.1 r c:=by
 by_cases h:0≤q2c G.1 r c
 ·exact h
 ·have hno:=w6f G.1 c (r - c) c h
  exfalso
  have hx:=hk (fun j=>if j=c then 1 else if j<c then (G.1 j).getD c 0 else 0) (hI.ker _ fun i hi=>by
   rw[x8u (c:=c+1) (by omega) fun j h1 h2=>by show (if j=c then (1:UInt8) else _)=0;rw[if_neg (by omega),if_neg (by omega)]]
   show q2y _ _ c ^^^ Gf.mul ((G.1 i).getD c 0) (if c=c then 1 else _)=0
   rw[if_pos rfl,Gf.mul_one,z4k _ (hI.unit i hi)]
   by_cases e:i<c
   ·rw[if_pos e,if_neg (by omega),if_pos e,UInt8.xor_self]
   ·rw[if_neg e,hno i (by omega) (by omega)];rfl) c hc
  rw[if_pos rfl]at hx
  exact absurd hx (by decide)
theorem el0 {r:Nat}{L:List x9}(hL:L.length=r)(hr:∀ s∈L,s.length=r):ElI r L 0 (gs0 r L) where
 len1:=fun i hi=>by
  show (L.getD i []).length=r
  rw[k0v,k0w (by omega)]
  exact hr _ (k1w _)
 len2:=fun i _=>y7q _ _ _
 unit:=fun i _ j h=>by omega
 ker:=fun x h=>h
 val:=fun x y h i hi=>by
  rw[show q2y ((gs0 r L).1 i) x r=y i from h i hi,z4k (i:=i),if_pos hi]
  intro j hj
  show (Z5 idA r i).getD j 0=_
  unfold Z5 idA
  rw[k0v,k1z,k2s hj]
  show (match ((i:Int)==(j:Int)) with|true=>(1:UInt8)|false=>0)=_
  by_cases e:i=j
  ·rw[if_pos e,e];rw[show ((j:Int)==(j:Int))=true from beq_self_eq_true _]
  ·rw[if_neg e,show ((i:Int)==(j:Int))=false from beq_eq_false_iff_ne.mpr (by omega)]
theorem v8w {r c:Nat}(hc:c<r){L:List x9}{G:U5 × U5}(hI:ElI r L c G)(hp:0≤q2c G.1 r c):ElI r L (c+1) (q3i r c G):=by
 obtain⟨p,p1,p2,p3,p4⟩:=z5v hc hp
 obtain⟨z,hz⟩:∃ z,z=Gf.inv ((G.1 p).getD c 0):=⟨_,rfl⟩
 have hz1:Gf.mul ((G.1 p).getD c 0) z=1:=by rw[hz];exact Gf.mul_inv p4
 have hrow:=w3p hc p3 hI.len1 hI.len2 p1 z hz hz1
 have s1:=q2v hI.len1 hc p3
 have s2:=q2v hI.len2 hc p3
 have hz0:z≠0:=fun e=>by rw[e,Gf.mul_zero]at hz1;exact absurd hz1 (by decide)
 have hSc:=v9z G.1 c p
 have hu:∀ i,i<r→∀ j,j<c→(swp G.1 c p i).getD j 0=if i=j then 1 else 0:=fun i hi j hj=>by
  rw[y7x,hI.unit _ (by split;exact p3;split;exact hc;exact hi) j hj]
  by_cases e:i=c
  ·rw[if_pos e,if_neg (by omega),if_neg (by omega)]
  ·rw[if_neg e]
   by_cases e2:i=p
   ·rw[if_pos e2,if_neg (by omega),if_neg (by omega)]
   ·rw[if_neg e2]
 have hvs:∀ x y,(∀ i,i<r→q2y (L.getD i []) x r=y i)→∀ i,i<r→q2y (swp G.1 c p i) x r=q2y (swp G.2 c p i) y r:=fun x y h=>v5w (Q:=fun a b=>q2y a x r=q2y b y r) hc p3 (hI.val x y h)
 have hks:∀ x,z2d r (swp G.1 c p) x→z2d r (fun i=>L.getD i []) x:=fun x h=>hI.ker x (v8v (N:=G.1) (Q:=fun a _=>q2y a x r=0) hc p3 h)
 have hcc:(swp G.1 c p c).getD c 0=(G.1 p).getD c 0:=by rw[hSc]
 rw[← hcc]at hz1
 generalize swp G.1 c p=S at *
 generalize swp G.2 c p=T at *
 have lc:∀ i,i<r→(S i).length=(q1s z (S c)).length:=fun i hi=>by rw[q0w,s1 i hi,s1 c hc]
 have lc2:∀ i,i<r→(T i).length=(q1s z (T c)).length:=fun i hi=>by rw[q0w,s2 i hi,s2 c hc]
 refine⟨fun i hi=>?_,fun i hi=>?_,fun i hi j hj=>?_,fun x hx=>hks x ?_,fun x y h i hi=>?_⟩
 ·rw[(hrow i hi).1]
  split
  ·rw[q0w];exact s1 c hc
  ·rw[q8j _ (lc i hi)];exact s1 i hi
 ·rw[(hrow i hi).2]
  split
  ·rw[q0w];exact s2 c hc
  ·rw[q8j _ (lc2 i hi)];exact s2 i hi
 ·rw[(hrow i hi).1]
  by_cases e:i=c
  ·rw[if_pos e,y7w]
   by_cases ej:j=c
   ·rw[ej,if_pos e,Gf.mul_comm];exact hz1
   ·rw[hu c hc j (by omega),if_neg (by omega),if_neg (by omega),Gf.mul_zero]
  ·rw[if_neg e,y7v _ (lc i hi),y7w]
   by_cases ej:j=c
   ·rw[ej,if_neg e,Gf.mul_comm z,hz1,Gf.mul_one,UInt8.xor_self]
   ·rw[hu c hc j (by omega),if_neg (show c≠j by omega),Gf.mul_zero,Gf.mul_zero,UInt8.xor_zero]
    exact hu i hi j (by omega)
 ·have hc0:=hx c hc
  rw[(hrow c hc).1,if_pos rfl,z2c]at hc0
  have hc0:q2y (S c) x r=0:=by
   rcases Gf.mul_eq_zero hc0 with h|h
   ·exact absurd h hz0
   ·exact h
  intro i hi
  by_cases e:i=c
  ·rw[e];exact hc0
  ·have:=hx i hi
   rw[(hrow i hi).1,if_neg e,y4k _ (lc i hi),z2c,hc0,Gf.mul_zero,Gf.mul_zero,UInt8.xor_zero]at this
   exact this
 ·have hv:=hvs x y h
  rw[(hrow i hi).1,(hrow i hi).2]
  split
  ·rw[z2c,z2c,hv c hc]
  ·rw[y4k _ (lc i hi),y4k _ (lc2 i hi),z2c,z2c,hv c hc,hv i hi]
theorem x4r {r:Nat}{L:List x9}(hL:L.length=r)(hr:∀ s∈L,s.length=r)(hk:∀ x,z2d r (fun i=>L.getD i []) x→∀ j,j<r→x j=0):∀ c,c≤r→ElI r L c (gs r L c)
 |0,_=>el0 hL hr
 |c+1,hc=>v8w (by omega) (x4r hL hr hk c (by omega)) (x8v (by omega) (x4r hL hr hk c (by omega)) hk)
theorem v8x {r:Nat}{L:List x9}(hL:L.length=r)(hr:∀ s∈L,s.length=r)(hk:∀ x,z2d r (fun i=>L.getD i []) x→∀ j,j<r→x j=0):y2f r L=true:=by
 unfold y2f
 rw[List.all_eq_true]
 intro c hc
 have hc:=List.mem_range.mp hc
 exact k1t (x8v hc (x4r hL hr hk c (by omega)) hk)
theorem w9s {r:Nat}{L:List x9}(hL:L.length=r)(hr:∀ s∈L,s.length=r)(hk:∀ x,z2d r (fun i=>L.getD i []) x→∀ j,j<r→x j=0)(x y:Nat→UInt8)
 (h:∀ i,i<r→q2y (L.getD i []) x r=y i) (i:Nat) (hi:i<r):q2y ((gs r L r).2 i) y r=x i:=by
 have hI:=x4r hL hr hk r (k1v _)
 rw[← hI.val x y h i hi,z4k x (hI.unit i hi),if_pos hi]
theorem Gf.mlc (a b c:UInt8):Gf.mul a (Gf.mul b c)=Gf.mul b (Gf.mul a c):=by rw[← Gf.mul_assoc,Gf.mul_comm a b,Gf.mul_assoc]
theorem Gf.inv_ne (a:UInt8):Gf.inv a≠0:=Gf.pw_ne _
def z9z (x:UInt8→UInt8)(a:UInt8):List UInt8→UInt8
 |[]=>0
 |b :: B=>z9z x a B ^^^ Gf.mul (x b) (Gf.inv (a ^^^ b))
theorem w3q {a b:UInt8}(h:a≠b):a ^^^ b≠0:=fun e=>h (q9j e)
theorem y7y (a b c:UInt8):a ^^^ b=a ^^^ c ^^^ (c ^^^ b):=by rw[UInt8.xor_assoc,← UInt8.xor_assoc c,UInt8.xor_self,UInt8.zero_xor]
theorem v8y (u v:UInt8):(1 ^^^ u) ^^^ (1 ^^^ v)=u ^^^ v:=by rw[u2b,UInt8.xor_self,UInt8.zero_xor]
theorem v5x (X p q d U V:UInt8)(hU:Gf.mul p U=1)(hV:Gf.mul q V=1) :
 Gf.mul (p ^^^ d) (Gf.mul X U) ^^^ Gf.mul (q ^^^ d) (Gf.mul X V)=Gf.mul (p ^^^ q) (Gf.mul (Gf.mul (Gf.mul X d) V) U):=by
 rw[Gf.mlc (p ^^^ d),Gf.mlc (q ^^^ d),Gf.xor_mul p d U,Gf.xor_mul q d V,hU,hV,← Gf.mul_xor,v8y]
 rw[Gf.xor_mul p q,Gf.mlc p,hU,Gf.mul_one,Gf.mul_assoc (Gf.mul X d) V U,Gf.mlc q,← Gf.mul_assoc q,hV,Gf.one_mul,Gf.mul_assoc,Gf.mul_assoc,← Gf.mul_xor,← Gf.mul_xor,← Gf.mul_xor,UInt8.xor_comm U]
theorem x8w (x:UInt8→UInt8)(a a0 b0:UInt8):∀ B:List UInt8,(∀ b∈B,a≠b∧a0≠b) →
 Gf.mul (a ^^^ b0) (z9z x a B) ^^^ Gf.mul (a0 ^^^ b0) (z9z x a0 B)=Gf.mul (a ^^^ a0) (z9z (fun b=>Gf.mul (Gf.mul (x b) (b ^^^ b0)) (Gf.inv (a0 ^^^ b))) a B)
 |[],_=>by show Gf.mul _ 0 ^^^ Gf.mul _ 0=Gf.mul _ 0;rw[Gf.mul_zero,Gf.mul_zero,Gf.mul_zero];rfl
 |b :: B,h=>by
  obtain⟨h1,h2⟩:=h b (List.mem_cons_self ..)
  have ih:=x8w x a a0 b0 B fun b hb=>h b (List.mem_cons_of_mem _ hb)
  show Gf.mul _ (z9z x a B ^^^ _) ^^^ Gf.mul _ (z9z x a0 B ^^^ _)=Gf.mul _ (z9z _ a B ^^^ _)
  rw[Gf.mul_xor,Gf.mul_xor,u2b,ih,Gf.mul_xor]
  congr 1
  rw[y7y a b0 b,y7y a0 b0 b,y7y a a0 b,UInt8.xor_comm b a0]
  exact v5x _ _ _ _ _ _ (Gf.mul_inv (w3q h1)) (Gf.mul_inv (w3q h2))
theorem x1j (x:UInt8→UInt8)(a:UInt8):∀ B:List UInt8,(∀ b∈B,x b=0)→z9z x a B=0
 |[],_=>rfl
 |b :: B,h=>by
  show z9z x a B ^^^ Gf.mul (x b) _=0
  rw[x1j x a B fun b hb=>h b (List.mem_cons_of_mem _ hb),h b (List.mem_cons_self ..),Gf.zero_mul];rfl
theorem x8x:∀ (B A:List UInt8) (x:UInt8→UInt8),A.Nodup→B.Nodup→(∀ a∈A,∀ b∈B,a≠b)→B.length≤A.length→(∀ a∈A,z9z x a B=0)→∀ b∈B,x b=0
 |[],_,_,_,_,_,_,_,_,hb=>absurd hb (List.not_mem_nil)
 |b0 :: B,[],_,_,_,_,hl,_,_,_=>absurd hl (by simp)
 |b0 :: B,a0 :: A,x,hA,hB,hd,hl,hz,b,hb=>by
  obtain⟨hA1,hA2⟩:=List.nodup_cons.mp hA
  obtain⟨hB1,hB2⟩:=List.nodup_cons.mp hB
  have hx0:∀ a∈a0 :: A,x b0=Gf.mul (a ^^^ b0) (z9z x a B):=fun a ha=>by
   have h1:z9z x a B=Gf.mul (x b0) (Gf.inv (a ^^^ b0)):=q9j (hz a ha)
   rw[h1,Gf.mlc,Gf.mul_inv (w3q (hd a ha b0 (List.mem_cons_self ..))),Gf.mul_one]
  have hy:∀ b∈B,Gf.mul (Gf.mul (x b) (b ^^^ b0)) (Gf.inv (a0 ^^^ b))=0:=by
   refine x8x B A (fun b=>Gf.mul (Gf.mul (x b) (b ^^^ b0)) (Gf.inv (a0 ^^^ b))) hA2 hB2 (fun a ha b hb=>hd a (List.mem_cons_of_mem _ ha) b (List.mem_cons_of_mem _ hb)) (by simpa using hl) fun a ha=>?_
   have hdf:=x8w x a a0 b0 B fun b hb=>⟨hd a (List.mem_cons_of_mem _ ha) b (List.mem_cons_of_mem _ hb),hd a0 (List.mem_cons_self ..) b (List.mem_cons_of_mem _ hb)⟩
   rw[← hx0 a (List.mem_cons_of_mem _ ha),← hx0 a0 (List.mem_cons_self ..),UInt8.xor_self]at hdf
   rcases Gf.mul_eq_zero hdf.symm with h|h
   ·exact absurd (q9j h) (fun e=>hA1 (e ▸ ha))
   ·exact h
  have hx:∀ b∈B,x b=0:=fun b hb=>by
   rcases Gf.mul_eq_zero (hy b hb) with h|h
   ·rcases Gf.mul_eq_zero h with h|h
    ·exact h
    ·exact absurd (q9j h) (fun e=>hB1 (e ▸ hb))
   ·exact absurd h (Gf.inv_ne _)
  rcases List.mem_cons.mp hb with rfl|hb
  ·rw[hx0 a0 (List.mem_cons_self ..),x1j x a0 B hx,Gf.mul_zero]
  ·exact hx b hb
def z0r (S:List x9)(most:Nat):Nat→List Nat
 |0=>[]
 |i+1=>match decide ((V2 S most i).length<most)&&decide (0<(S.getD i []).length) with
  |true=>z0r S most i
  |false=>i :: z0r S most i
def z4m (S:List x9)(most k:Nat):Nat→List Nat
 |0=>[]
 |i+1=>match decide ((V2 S most (k+i)).length<most)&&decide (0<(S.getD (k+i) []).length) with
  |true=>(k+i) :: z4m S most k i
  |false=>z4m S most k i
def pkd (S:List x9)(most i:Nat):Bool:=decide ((V2 S most i).length<most)&&decide (0<(S.getD i []).length)
theorem q7i {S:List x9}{most i:Nat}(h:pkd S most i=true):V2 S most (i+1)=V2 S most i++[i]∧z0r S most (i+1)=z0r S most i:=by
 unfold pkd at h
 exact⟨by show (match _ with|true=>_|false=>_)=_;rw[h],by show (match _ with|true=>_|false=>_)=_;rw[h]⟩
theorem q8p {S:List x9}{most i:Nat}(h:pkd S most i=false):V2 S most (i+1)=V2 S most i∧z0r S most (i+1)=i :: z0r S most i:=by
 unfold pkd at h
 exact⟨by show (match _ with|true=>_|false=>_)=_;rw[h],by show (match _ with|true=>_|false=>_)=_;rw[h]⟩
theorem w3r {S:List x9}{most k i:Nat}(h:pkd S most (k+i)=true):z4m S most k (i+1)=(k+i) :: z4m S most k i:=by
 unfold pkd at h
 show (match _ with|true=>_|false=>_)=_;rw[h]
theorem w3s {S:List x9}{most k i:Nat}(h:pkd S most (k+i)=false):z4m S most k (i+1)=z4m S most k i:=by
 unfold pkd at h
 show (match _ with|true=>_|false=>_)=_;rw[h]
theorem x8y (S:List x9)(most:Nat):∀ i,(V2 S most i).length+(z0r S most i).length=i
 |0=>rfl
 |i+1=>by
  have ih:=x8y S most i
  cases h:pkd S most i with
  |true=>rw[(q7i h).1,(q7i h).2,k1y];show _+1+_=_;omega
  |false=>rw[(q8p h).1,(q8p h).2,List.length_cons];omega
theorem x8z (S:List x9)(most k:Nat):∀ i,(V2 S most (k+i)).length=(V2 S most k).length+(z4m S most k i).length
 |0=>rfl
 |i+1=>by
  have ih:=x8z S most k i
  rw[← Nat.add_assoc]
  cases h:pkd S most (k+i) with
  |true=>rw[(q7i h).1,w3r h,k1y,List.length_singleton,List.length_cons];omega
  |false=>rw[(q8p h).1,w3s h];exact ih
theorem y0a (S:List x9)(most k j:Nat)(h:j∈V2 S most k):∀ i,j∈V2 S most (k+i)
 |0=>h
 |i+1=>by
  rw[← Nat.add_assoc]
  cases e:pkd S most (k+i) with
  |true=>rw[(q7i e).1];exact List.mem_append.mpr (.inl (y0a S most k j h i))
  |false=>rw[(q8p e).1];exact y0a S most k j h i
theorem z4n (S:List x9)(most k j:Nat):∀ i,j∈z4m S most k i→j∈V2 S most (k+i)∧k≤j∧j<k+i
 |0,h=>absurd h (List.not_mem_nil)
 |i+1,h=>by
  rw[← Nat.add_assoc]
  cases e:pkd S most (k+i) with
  |true=>
   rw[w3r e]at h
   rw[(q7i e).1]
   rcases List.mem_cons.mp h with rfl|h
   ·exact⟨List.mem_append.mpr (.inr (List.mem_singleton.mpr rfl)),by omega,by omega⟩
   ·obtain⟨a,b,c⟩:=z4n S most k j i h
    exact⟨List.mem_append.mpr (.inl a),b,by omega⟩
  |false=>
   rw[w3s e]at h
   rw[(q8p e).1]
   obtain⟨a,b,c⟩:=z4n S most k j i h
   exact⟨a,b,by omega⟩
theorem y4n (S:List x9)(most j:Nat):∀ i,j∈z0r S most i→j<i
 |0,h=>absurd h (List.not_mem_nil)
 |i+1,h=>by
  cases e:pkd S most i with
  |true=>rw[(q7i e).2]at h;have:=y4n S most j i h;omega
  |false=>
   rw[(q8p e).2]at h
   rcases List.mem_cons.mp h with rfl|h
   ·omega
   ·have:=y4n S most j i h;omega
theorem x4s (S:List x9)(most j:Nat):∀ i,j<i→j∈V2 S most i∨j∈z0r S most i
 |0,h=>by omega
 |i+1,h=>by
  cases e:pkd S most i with
  |true=>
   rw[(q7i e).1,(q7i e).2]
   by_cases e:j=i
   ·subst e
    exact .inl (List.mem_append.mpr (.inr (List.mem_singleton.mpr rfl)))
   ·exact(x4s S most j i (by omega)).imp (fun h=>List.mem_append.mpr (.inl h)) id
  |false=>
   rw[(q8p e).1,(q8p e).2]
   by_cases e:j=i
   ·subst e
    exact .inr (List.mem_cons_self ..)
   ·exact(x4s S most j i (by omega)).imp id (List.mem_cons_of_mem _)
theorem y2j {i j:Nat}(hi:i<256)(hj:j<256)(h:UInt8.ofNat i=UInt8.ofNat j):i=j:=by
 have:=congrArg UInt8.toNat h
 rw[UInt8.toNat_ofNat',UInt8.toNat_ofNat',Nat.mod_eq_of_lt hi,Nat.mod_eq_of_lt hj]at this
 exact this
theorem y7z (S:List x9)(most:Nat):∀ i,i≤256→((z0r S most i).map UInt8.ofNat).Nodup
 |0,_=>List.nodup_nil
 |i+1,hi=>by
  have ih:=y7z S most i (by omega)
  cases e:pkd S most i with
  |true=>rw[(q7i e).2];exact ih
  |false=>
   rw[(q8p e).2]
   refine List.nodup_cons.mpr ⟨fun h=>?_,ih⟩
   rw[List.mem_map]at h
   obtain⟨j,hj,e⟩:=h
   have hlt:=y4n S most j i hj
   have:=y2j (by omega) (by omega) e
   omega
theorem y8a (S:List x9)(most k:Nat):∀ i,k+i≤256→((z4m S most k i).map UInt8.ofNat).Nodup
 |0,_=>List.nodup_nil
 |i+1,hi=>by
  have ih:=y8a S most k i (by omega)
  cases e:pkd S most (k+i) with
  |true=>
   rw[w3r e]
   refine List.nodup_cons.mpr ⟨fun h=>?_,ih⟩
   rw[List.mem_map]at h
   obtain⟨j,hj,e⟩:=h
   obtain⟨_,_,hlt⟩:=z4n S most k j i hj
   have:=y2j (by omega) (by omega) e
   omega
  |false=>rw[w3s e];exact ih
theorem w6g (S:List x9)(most:Nat)(row:x9)(x:Nat→UInt8)(a:UInt8):∀ n,n≤256→(∀ j,j<n→row.getD j 0=Gf.inv (a ^^^ UInt8.ofNat j))→(∀ j∈V2 S most n,x j=0) →
 q2y row x n=z9z (fun b=>x b.toNat) a ((z0r S most n).map UInt8.ofNat)
 |0,_,_,_=>rfl
 |n+1,hn,hr,hx=>by
  show q2y row x n ^^^ Gf.mul (row.getD n 0) (x n)=_
  have hx':∀ j∈V2 S most n,x j=0:=fun j hj=>hx j (y0a S most n j hj 1)
  rw[w6g S most row x a n (by omega) (fun j hj=>hr j (by omega)) hx',hr n (by omega)]
  cases e:pkd S most n with
  |true=>
   rw[(q7i e).1]at hx
   rw[(q7i e).2,hx n (List.mem_append.mpr (.inr (List.mem_singleton.mpr rfl))),Gf.mul_zero,UInt8.xor_zero]
  |false=>
   rw[(q8p e).2]
   show _=z9z _ a _ ^^^ Gf.mul (x (UInt8.ofNat n).toNat) _
   rw[show (UInt8.ofNat n).toNat=n by rw[UInt8.toNat_ofNat',Nat.mod_eq_of_lt (by omega)],Gf.mul_comm]
theorem x9a (A:Nat→Nat→UInt8){c i j:Nat}(hj:j<c):(Z5 A c i).getD j 0=A i j:=by
 unfold Z5
 rw[k0v,k1z,k2s hj];rfl
theorem w3t {k m i:Nat}(h:i<k):(q0m k m).getD i []=Z5 idA k i:=by
 unfold q0m
 rw[k0v,k0s (by rw[k1x,k3q];exact h),k1z,k2s h];rfl
theorem y8b {k m t:Nat}(h:t<m):(q0m k m).getD (k+t) []=Z5 (q8t k) k t:=by
 unfold q0m z7w
 rw[k0v,k1q (by rw[k1x,k3q];omega),k1x,k3q,Nat.add_sub_cancel_left,k1z,k2s h];rfl
theorem u2c (i j:Nat):idA i j=if i=j then 1 else 0:=by
 unfold idA
 by_cases e:i=j
 ·rw[if_pos e,e,show ((j:Int)==(j:Int))=true from beq_self_eq_true _]
 ·rw[if_neg e,show ((i:Int)==(j:Int))=false from beq_eq_false_iff_ne.mpr (by omega)]
theorem x9b {k m i:Nat}(h:i<k)(x:Nat→UInt8):q2y ((q0m k m).getD i []) x k=x i:=by
 rw[w3t h,z4k x (i:=i) fun j hj=>by rw[x9a _ hj,u2c],if_pos h]
theorem x4t {S:List x9}{k m:Nat}(h:(V2 S k (k+m)).length=k):(byB S k m).length=k:=by unfold byB;rw[k1x,h]
theorem w6h {S:List x9}{k m:Nat}:∀ s∈byB S k m,s.length=k:=fun s hs=>by
 unfold byB at hs
 rw[List.mem_map]at hs
 obtain⟨i,hi,rfl⟩:=hs
 have hi:=(q6g S k (k+m) i hi).1
 rw[k0v,k0w (by rw[y2h];exact hi)]
 exact x1h _ (k1w _)
theorem x1k {S:List x9}{k m:Nat}(hkm:k+m≤256)(hg:(V2 S k (k+m)).length=k)(x:Nat→UInt8)(hz:z2d k (fun i=>(byB S k m).getD i []) x):∀ j,j<k→x j=0:=by
 have hz:∀ i∈V2 S k (k+m),q2y ((q0m k m).getD i []) x k=0:=fun i hi=>by
  obtain⟨t,ht,rfl⟩:=List.getElem_of_mem hi
  have:=hz t (by omega)
  have e:(byB S k m).getD t []=(q0m k m).getD (V2 S k (k+m))[t] []:=by
   unfold byB
   rw[k0v,k1z,k0w ht];rfl
  have this:q2y ((byB S k m).getD t []) x k=0:=this
  rw[e]at this
  exact this
 have hx0:∀ j∈V2 S k k,x j=0:=fun j hj=>by
  have:=hz j (y0a S k k j hj m)
  rwa [x9b (q6g S k k j hj).1]at this
 have hA:=y8a S k k m hkm
 have hB:=y7z S k k (by omega)
 have hl:((z0r S k k).map UInt8.ofNat).length≤((z4m S k k m).map UInt8.ofNat).length:=by
  have h1:=x8y S k k
  have h2:=x8z S k k m
  rw[k1x,k1x]
  omega
 have hd:∀ a∈(z4m S k k m).map UInt8.ofNat,∀ b∈(z0r S k k).map UInt8.ofNat,a≠b:=fun a ha b hb e=>by
  rw[List.mem_map]at ha hb
  obtain⟨i,hi,rfl⟩:=ha
  obtain⟨j,hj,rfl⟩:=hb
  obtain⟨_,h1,h2⟩:=z4n S k k i m hi
  have h3:=y4n S k j k hj
  have:=y2j (by omega) (by omega) e
  omega
 have hc:=x8x _ _ (fun b=>x b.toNat) hA hB hd hl fun a ha=>by
  rw[List.mem_map]at ha
  obtain⟨i,hi,rfl⟩:=ha
  obtain⟨h0,h1,h2⟩:=z4n S k k i m hi
  have:=hz i h0
  obtain⟨t,rfl⟩:∃ t,i=k+t:=⟨i - k,by omega⟩
  rw[y8b (by omega),w6g S k _ x (UInt8.ofNat (k+t)) k (by omega) (fun j hj=>by rw[x9a _ hj];rfl) hx0]at this
  exact this
 intro j hj
 rcases x4s S k j k hj with h|h
 ·exact hx0 j h
 ·have:=hc (UInt8.ofNat j) (List.mem_map_of_mem h)
  rwa [show (UInt8.ofNat j).toNat=j by rw[UInt8.toNat_ofNat',Nat.mod_eq_of_lt (by omega)]]at this
theorem u3b {S:List x9}{k m:Nat}(hkm:k+m≤256)(hg:(V2 S k (k+m)).length=k):y2f k (byB S k m)=true:=v8x (x4t hg) w6h (x1k hkm hg)
theorem y8c {a:x9}{B:List x9}{c p:Nat}(hB:∀ s∈B,s.length=c)(hp:p<c):∀ n,n≤B.length→(Q6 a B c n).getD p 0=q2y a (fun j=>(B.getD j []).getD p 0) n
 |0,_=>by
  show (List.replicate c (0:UInt8)).getD p 0=0
  rw[k0v,List.getElem?_replicate,if_pos hp];rfl
 |n+1,hn=>by
  have hl:(B.getD n []).length=c:=by
   rw[k0v,k0w (by omega)]
   exact hB _ (k1w _)
  show (q2b (Q6 a B c n) (B.getD n []) (a.getD n 0)).getD p 0=_
  rw[y7v _ (by rw[X3 a hB (by omega),hl]),y8c hB hp n (by omega)];rfl
theorem v5y {a b:x9}(h:a.length=b.length)(hg:∀ p,p<a.length→a.getD p 0=b.getD p 0):a=b:=by
 refine List.ext_getElem h fun p h1 h2=>?_
 have:=hg p h1
 rwa [k0v,k0v,k0w h1,k0w h2]at this
theorem v5z {S:List x9}{k m c:Nat}(hkm:k+m≤256)(hS:∀ i∈V2 S k (k+m),(S.getD i []).length=c)(hg:(V2 S k (k+m)).length=k){data:List x9}(hd:data.length=k)(hc:∀ s∈data,s.length=c)
 (h:∀ i∈V2 S k (k+m),∀ p,p<c→(S.getD i []).getD p 0=q2y ((q0m k m).getD i []) (fun j=>(data.getD j []).getD p 0) k):z4j S k m c=data:=by
 have hbl:=x4t (S:=S) (m:=m) hg
 have hol:(ofB S k m).length=k:=by unfold ofB;rw[k1x,hg]
 have hor:∀ s∈ofB S k m,s.length=c:=fun s hs=>by
  unfold ofB at hs
  rw[List.mem_map]at hs
  obtain⟨i,hi,rfl⟩:=hs
  exact hS i hi
 have hil:(y3y (byB S k m)).length=k:=(y7u _).trans hbl
 unfold z4j
 refine List.ext_getElem (by rw[k1x,hil,hd]) fun i h1 h2=>?_
 rw[List.getElem_map]
 have hi:i<k:=by omega
 refine v5y (by rw[X3 _ hor (by omega),hc _ (k1w _)]) fun p hp=>?_
 rw[X3 _ hor (by omega)]at hp
 rw[y8c hor hp k (by omega)]
 have hrow:(y3y (byB S k m))[i]'(by omega)=(gs k (byB S k m) k).2 i:=by
  simp only[z0k hbl,List.getElem_map,List.getElem_range]
 rw[hrow,w9s hbl w6h (x1k hkm hg) (fun j=>(data.getD j []).getD p 0) _ (fun t ht=>?_) i hi]
 ·show (data.getD i []).getD p 0=_
  rw[k0v (l:=data),k0w h2];rfl
 ·have hg2:t<(V2 S k (k+m)).length:=by omega
  have:=h _ (k1w hg2) p hp
  have e1:(byB S k m).getD t []=(q0m k m).getD (V2 S k (k+m))[t] []:=by
   unfold byB
   rw[k0v,k1z,k0w hg2];rfl
  have e2:(ofB S k m).getD t []=S.getD (V2 S k (k+m))[t] []:=by
   unfold ofB
   rw[k0v,k1z,k0w hg2];rfl
  rw[e1,e2]
  exact this.symm
theorem z4p (data:List x9)(m c:Nat):(q8u data m c).length=m:=by unfold q8u;rw[k1x,z0m]
theorem w9t {data:List x9}{k m c i p:Nat}(hd:data.length=k)(hc:∀ s∈data,s.length=c)(hi:i<k+m)(hp:p<c):((data++q8u data m c).getD i []).getD p 0=q2y ((q0m k m).getD i []) (fun j=>(data.getD j []).getD p 0) k:=by
 by_cases h:i<k
 ·rw[x9b h,k0v (l:=data++_),k0s (by omega),← k0v]
 ·obtain⟨t,rfl⟩:∃ t,i=k+t:=⟨i - k,by omega⟩
  rw[y8b (by omega),k0v (l:=data++_),k1q (by omega),hd,Nat.add_sub_cancel_left]
  unfold q8u z7w
  rw[k1z,k1z,k2s (by omega)]
  show (Q6 (Z5 (q8t data.length) data.length t) data c data.length).getD p 0=_
  rw[y8c hc hp _ (k1v _),hd]
theorem w9u {S:List x9}{k m c:Nat}(hkm:k+m≤256)(_hc0:0<c){data:List x9}(hd:data.length=k)(hc:∀ s∈data,s.length=c)
 (hS:∀ i,i<k+m→0<(S.getD i []).length→S.getD i []=(data++q8u data m c).getD i []) (hg:¬ (V2 S k (k+m)).length<k):z0q S k m c=(data++q8u data m c,0):=by
 have hg2:=(z0p S k (k+m)).2
 have hdat:z4j S k m c=data:=by
  have hl:∀ i,i<k+m→((data++q8u data m c).getD i []).length=c:=fun i hi=>by
   rw[k0v,k0w (by rw[k1y,z4p];omega)]
   have hm:=k1w (l:=data++q8u data m c) (n:=i) (by rw[k1y,z4p];omega)
   rcases List.mem_append.mp hm with h|h
   ·exact hc _ h
   ·have h':_∈(z7w data.length m).map fun a=>Q6 a data c data.length:=h
    rw[List.mem_map]at h'
    obtain⟨a,_,e⟩:=h'
    show List.length (_) =c
    exact e ▸ X3 a hc (k1v _)
  refine v5z hkm (fun i hi=>?_) (by omega) hd hc fun i hi p hp=>?_
  ·obtain⟨h1,h2⟩:=q6g S k (k+m) i hi
   rw[hS i h1 h2];exact hl i h1
  ·obtain⟨h1,h2⟩:=q6g S k (k+m) i hi
   rw[hS i h1 h2];exact w9t hd hc h1 hp
 unfold z0q
 rw[k1s hg,hdat]
theorem V5 {g:GeoV}(h:g.may=true):g.fits=true:=by unfold GeoV.may at h;rw[k1u]at h;exact h.1
def GeoV.groups (g:GeoV):Int:=match g.may with|true=>1+g.w+2*g.s|false=>0
theorem x9c (g:GeoV)(h:g.fits=true):AF k0q z3y [g.av] [] (Q9 (i64 (1+g.w+2*g.s)) []):=by
 obtain⟨h1,h2,h3,h4,h5,h6,h7,h8⟩:=V7 h
 refine Q8 hT Tryz.func100 rfl rfl Tryz.ntmps100 rfl ?_
 refine y6 hT ?_
 refine Z3 (Z4 0 g.pv rfl rfl) ?_
 refine y6 hT ?_
 refine u5 ?_
 rw[show i64 (1+g.w+2*g.s)=i64 (IntKind.i64.wrap (IntKind.i64.wrap (1+g.w)+IntKind.i64.wrap (2*g.s))) by
  rw[Q0 (1+g.w) (by omega) (by omega),Q0 (2*g.s) (by omega) (by omega),Q0 _ (by omega) (by omega)]]
 exact x8 [] ⟨rfl,rfl⟩ rfl
theorem z2e (g:GeoV):AF k0q x3v [g.av] [] (Q9 (i64 g.groups) []):=by
 have wo:AF k0q y5z [g.av,.clo (.func z3y) []] [] (Q9 (i64 g.groups) []):=by
  refine Q8 hT Tryz.func99 rfl rfl Tryz.ntmps99 rfl ?_
  refine y6 hT ?_
  refine Z3 (Z4 0 g.pv rfl rfl) ?_
  unfold GeoV.groups
  refine u6 (y6 hT ?_)
  refine Q1 (Q5 (q9g g) _ rfl rfl) ?_
  refine y8 (u9 (fun h=>?_) (fun h=>?_))
  ·have h:(!g.may)=true:=h
   rw[Bool.not_eq_true']at h
   rw[h]
   refine y6 hT ?_
   refine u5 ?_
   exact x8 [] ⟨rfl,rfl⟩ rfl
  ·have h:(!g.may)=false:=h
   rw[Bool.not_eq_false']at h
   rw[h]
   have hf:=V5 h
   refine x7 ?_
   refine y6 hT ?_
   refine Q1 (Q5 (x9c g hf) _ rfl rfl) ?_
   refine u5 ?_
   exact x8 [] ⟨rfl,rfl⟩ rfl
 refine Q8 hT Tryz.func53 rfl rfl Tryz.ntmps53 rfl ?_
 refine y6 hT ?_
 refine Z3 (Z4 0 g.pv rfl rfl) ?_
 refine y6 hT ?_
 refine Q1 (Q5 wo _ rfl rfl) ?_
 refine u5 ?_
 exact x8 [] ⟨rfl,rfl⟩ rfl
def z2f (first:Int)(n k:Nat):List (List PV):=(List.range n).map fun j=>([.raw (.int .i64 (if j<k then first+j else 0))]:List PV)
theorem z4q (first:Int)(n k:Nat):(z2f first n k).length=n:=by unfold z2f;rw[k1x,k3q]
theorem z0s {first:Int}{n k j:Nat}(h:j<n):(z2f first n k)[j]?=some [.raw (.int .i64 (if j<k then first+j else 0))]:=by
 unfold z2f;rw[k1z,k2s h];rfl
theorem v6a {first:Int}{n k:Nat}(h:k<n):(z2f first n k).set k [.raw (.int .i64 (first+k))]=z2f first n (k+1):=by
 refine List.ext_getElem? fun j=>?_
 rw[List.getElem?_set]
 by_cases hj:j<n
 ·rw[z4q]
  by_cases e:k=j
  ·subst e
   rw[if_pos rfl,if_pos h,z0s h,if_pos (by omega)]
  ·rw[if_neg e,z0s hj,z0s hj]
   by_cases h2:j<k
   ·rw[if_pos h2,if_pos (by omega)]
   ·rw[if_neg h2,if_neg (by omega)]
 ·rw[if_neg (by omega),List.getElem?_eq_none (by rw[z4q];omega),List.getElem?_eq_none (by rw[z4q];omega)]
theorem w9v (first:Int)(n:Nat):z2f first n 0=List.replicate n [.raw (.int .i64 0)]:=by
 refine List.ext_getElem? fun j=>?_
 rw[List.getElem?_replicate]
 by_cases hj:j<n
 ·rw[z0s hj,if_neg (by omega),if_pos hj]
 ·rw[List.getElem?_eq_none (by rw[z4q];omega),if_neg hj]
theorem y9r (first:Int)(j:Nat)(h0:0≤first)(h1:first≤100000)(hj:j≤1000):AF k0q q2m [i64 j,.p (.box [.raw (.int .i64 first)])] [] (Q9 (i64 (first+j)) []):=by
 refine Q8 hT Tryz.func84 rfl rfl Tryz.ntmps84 rfl ?_
 refine y6 hT ?_
 refine y6 hT ?_
 refine u5 ?_
 rw[show i64 (first+j)=i64 (IntKind.i64.wrap (first+j)) by rw[Q0 _ (by omega) (by omega)]]
 exact x8 [] ⟨rfl,rfl⟩ rfl
theorem v8z (first:Int)(n:Nat)(h0:0≤first)(h1:first≤100000)(n1:1≤n)(n2:n≤1000) :
 AF k0q y1p [i64 n,.clo (.func q2m) [.p (.box [.raw (.int .i64 first)])]] [] (Q9 (.msl 0 1 0 n) [.row V1 1 (z2f first n n)]):=by
 have hz:=w9v first n
 have w:=fun j hj=>y9r first j h0 h1 hj
 refine Q8 hT Tryz.func79 rfl rfl Tryz.ntmps79 rfl ?_
 refine y6 hT ?_
 refine Q4 (fun st=>∃ X,X=z2f first n 0∧st=⟨⟨22,[(1,.clo (.func q2m) [.p (.box [.raw (.int .i64 first)])]),(5,.msl 0 1 0 n)]⟩,[.row V1 1 X]⟩) (y7 hT ?_) ?_
 ·refine⟨⟨rfl,by omega,⟨by show (n:Int)*8≤_;omega,by omega⟩⟩,?_⟩
  exact⟨_,z8 [0] [1,5] rfl,_,hz.symm,rfl⟩
 rintro _ ⟨X,hX,rfl⟩
 refine Q4 (fun st=>∃ X,X=z2f first n n∧st=⟨⟨22,[(5,.msl 0 1 0 n)]⟩,[.row V1 1 X]⟩) (y6 hT ?_) ?_
 ·refine x3 ?_
  refine Q3 (fun m s=>∃ (k:Nat) (j:Int) (X:_),m+k=n∧j=k∧X=z2f first n k∧s=⟨⟨22,[(1,.clo (.func q2m) [.p (.box [.raw (.int .i64 first)])]),(5,.msl 0 1 0 n),(10,i64 n),(11,i64 j)]⟩,[.row V1 1 X]⟩) n ⟨⟨22,_⟩,_⟩ (z8 [0] [1,5,10,11] rfl) ⟨0,0,X,by omega,rfl,hX,rfl⟩ ?_
  clear hz
  rintro m s ⟨k,j,X,hmk,hj,hX,rfl⟩
  refine y6 hT ?_
  refine u6 (y8 (u9 (fun h=>?_) (fun h=>?_)))
  ·have h:=k0z (show decide (j<(n:Int))=true from h)
   have hk:k<n:=by omega
   refine x7 ?_
   have w:=w k (by omega)
   rw[← hj]at w
   have hgx:X[0+j.toNat]?=some [.raw (.int .i64 0)]:=by
    rw[show 0+j.toNat=k by omega,hX,z0s hk,if_neg (by omega)]
   have hset:X.set (0+j.toNat) [.raw (.int .i64 (first+j))]=z2f first n (k+1):=by
    rw[show 0+j.toNat=k by omega,hX,hj];exact v6a hk
   generalize first+j=v at w hset
   refine Q4 (fun st=>∃ X,X=z2f first n (k+1)∧st=⟨⟨22,[(1,.clo (.func q2m) [.p (.box [.raw (.int .i64 first)])]),(5,.msl 0 1 0 n),(10,i64 n),(11,i64 j)]⟩,[.row V1 1 X]⟩) (x3 ?_) ?_
   ·refine y6 hT ?_
    refine y7 hT ?_
    refine Q1 (Q5 w _ rfl rfl) ?_
    refine⟨⟨by omega,by omega⟩,?_⟩
    refine Z2 hgx ?_
    exact⟨_,z8 [0] [1,5,10,11] rfl,_,hset,rfl⟩
   ·rintro _ ⟨X,rfl,rfl⟩
    refine y7 hT ?_
    exact⟨m - 1,by omega,_,z8 [0] [1,5,10,11] rfl,k+1,IntKind.i64.wrap (j+1),_,by omega,by rw[Q0 _ (by omega) (by omega)];omega,rfl,rfl⟩
  ·have h:=k0y (show decide (j<(n:Int))=false from h)
   rw[show k=n by omega]at hX
   refine Q7 ?_
   exact⟨_,z8 [0] [5] rfl,_,hX,rfl⟩
 rintro _ ⟨X,rfl,rfl⟩
 refine y6 hT ?_
 refine u5 ?_
 exact x8 [0] ⟨rfl,rfl⟩ rfl
def GeoV.at_ (g:GeoV)(area stripe:Int):Int:=4+2*g.w+(area*g.s+stripe)*(g.k+g.m)
theorem y3b (g:GeoV)(t:Int)(hg:g.may=true)(t0:0≤t)(t1:t<2*g.s)(n:Nat)(hn:g.k+g.m=n)(first:Int)(hf:4+2*g.w+t*(g.k+g.m)=first) :
 AF k0q z6m [g.av,i64 (1+g.w+t)] [] (Q9 (.msl 0 1 0 n) [.row V1 1 (z2f first n n)]):=by
 obtain⟨h1,h2,h3,h4,h5,h6,h7,h8⟩:=V7 (V5 hg)
 have hm:=Int.mul_le_mul (show t≤64 by omega) (show g.k+g.m≤24 by omega) (by omega) (by omega)
 have hm0:0≤t*(g.k+g.m):=Int.mul_nonneg t0 (by omega)
 obtain⟨i,hi⟩:∃ i,i=1+g.w+t:=⟨_,rfl⟩
 rw[← hi]
 have wg:=z2e g
 rw[show g.groups=1+g.w+2*g.s by unfold GeoV.groups;rw[hg]]at wg
 have wr:=v8z first n (by omega) (by omega) (by omega) (by omega)
 have wl:AF k0q z9d [g.av] [] (Q9 (i64 (4+2*g.w)) []):=by
  refine Q8 hT Tryz.func82 rfl rfl Tryz.ntmps82 rfl ?_
  refine y6 hT ?_
  refine Z3 (Z4 0 g.pv rfl rfl) ?_
  refine y6 hT ?_
  refine u5 ?_
  rw[show i64 (4+2*g.w)=i64 (IntKind.i64.wrap (4+IntKind.i64.wrap (2*g.w))) by rw[Q0 (2*g.w) (by omega) (by omega),Q0 _ (by omega) (by omega)]]
  exact x8 [] ⟨rfl,rfl⟩ rfl
 have ww:AF k0q y5y [g.av] [] (Q9 (i64 n) []):=by
  refine Q8 hT Tryz.func83 rfl rfl Tryz.ntmps83 rfl ?_
  refine y6 hT ?_
  refine Z3 (Z4 0 g.pv rfl rfl) ?_
  refine y6 hT ?_
  refine u5 ?_
  rw[show i64 n=i64 (IntKind.i64.wrap (g.k+g.m)) by rw[Q0 _ (by omega) (by omega),hn]]
  exact x8 [] ⟨rfl,rfl⟩ rfl
 refine Q8 hT Tryz.func48 rfl rfl Tryz.ntmps48 rfl ?_
 refine y6 hT ?_
 refine u0 ⟨⟨41,[(2,.p (.box g.pv)),(3,.p (.box [.raw (.int .i64 i)]))]⟩,[]⟩ True (x3 ?_) (fun _=>?_)
 ·refine Z3 (Z4 0 g.pv rfl rfl) ?_
  refine Z3 (Z4 1 [.raw (.int .i64 i)] rfl rfl) ?_
  refine u6 ?_
  refine Z0 [] [] hT u7 (by rfl) ?_
  refine u9 (fun h=>?_) (fun h=>?_)
  ·have h:=k0z (show decide (i<0)=true from h)
   omega
  refine⟨_,Q5 wg _ rfl rfl,?_⟩
  refine y8 (u9 (fun h=>?_) (fun h=>?_))
  ·have h:=k0z (show decide (i≥1+g.w+2*g.s)=true from h)
   omega
  refine y6 hT ?_
  refine y8 (u9 (fun h=>?_) (fun h=>?_))
  ·have h:(i==0)=true:=h
   rw[beq_iff_eq]at h
   omega
  refine y6 hT ?_
  refine y8 (u9 (fun h=>?_) (fun h=>?_))
  ·have h:=k0z (show decide (i≤g.w)=true from h)
   omega
  exact x7 ⟨z8 [] [2,3] rfl,trivial⟩
 refine Q4 (fun st=>∃ x,x=first∧st=⟨⟨41,[(2,.p (.box g.pv)),(5,.p (.box [.raw (.int .i64 x)]))]⟩,[]⟩) ?_ ?_
 ·refine Z0 [11,12] [] hT u7 (by rfl) ?_
  refine⟨_,Q5 wl _ rfl rfl,?_⟩
  refine⟨_,Q5 ww _ rfl rfl,?_⟩
  repeat first|refine⟨rfl,?_⟩|refine⟨⟨_,Q5 wl _ rfl rfl,rfl⟩,?_⟩|refine⟨⟨_,Q5 ww _ rfl rfl,rfl⟩,?_⟩
  refine⟨_,Wk.trans (Z4 0 [.raw (.int .i64 _)] rfl rfl) (z8 [] [2,5] rfl),_,?_,rfl⟩
  rw[Q0 (i - 1) (by omega) (by omega),Q0 (i - 1 - g.w) (by omega) (by omega),show i - 1 - g.w=t by omega,← hn,Q0 (t*(g.k+g.m)) (by omega) (by omega),Q0 _ (by omega) (by omega)]
  exact hf
 rintro _ ⟨x,rfl,rfl⟩
 refine y6 hT ?_
 refine Q1 (Q5 ww _ rfl rfl) ?_
 refine Q1 (q1h wr _ rfl) ?_
 refine u5 ?_
 exact x8 [0] ⟨rfl,rfl⟩ rfl
def q1u (g:GeoV)(area stripe:Int):Int × Int:=match g.may&&inR area 0 1&&(inR stripe 0 31&&decide (stripe<g.s)) with
 |true=>(g.at_ area stripe,0)
 |false=>(0,1)
def q1x (g:GeoV)(area stripe:Int):Prop:=g.may=true∧0≤area∧area≤1∧0≤stripe∧stripe<g.s
theorem z0t {g:GeoV}{area stripe:Int}(h:q1x g area stripe):q1u g area stripe=(g.at_ area stripe,0):=by
 obtain⟨h1,h2,h3,h4,h5⟩:=h
 obtain⟨_,_,_,h6,_⟩:=V7 (V5 h1)
 unfold q1u inR
 rw[h1,k1t (show area≥0 from h2),k1t (show area≤1 from h3),k1t (show stripe≥0 from h4),k1t (show stripe≤31 by omega),k1t h5];rfl
theorem z4r {g:GeoV}{area stripe:Int}(h:¬ q1x g area stripe):q1u g area stripe=(0,1):=by
 unfold q1u
 cases e:g.may&&inR area 0 1&&(inR stripe 0 31&&decide (stripe<g.s)) with
 |false=>rfl
 |true=>
  unfold inR at e
  simp only[Bool.and_eq_true,decide_eq_true_eq]at e
  exact absurd ⟨e.1.1,e.1.2.1,e.1.2.2,e.2.1.1,e.2.2⟩ h
theorem z7x (g:GeoV)(area stripe:Int):AF k0q x3x [g.av,i64 area,i64 stripe] [] (Q9 (.tup [i64 (q1u g area stripe).1,i64 (q1u g area stripe).2]) []):=by
 refine AF.mono (R:=fun r H'=>∃ z,z=q1u g area stripe∧r=.tup [i64 z.1,i64 z.2]∧H'=[]) ?_ (by rintro r H' ⟨z,rfl,rfl,rfl⟩;exact⟨rfl,rfl⟩)
 have wm:=q9g g
 refine Q8 hT Tryz.func112 rfl rfl Tryz.ntmps112 rfl ?_
 refine y6 hT ?_
 refine u0 ⟨⟨43,[(1,i64 area),(2,i64 stripe),(3,.p (.box g.pv))]⟩,[]⟩ (q1x g area stripe) ?_ (fun hok=>?_)
 ·refine Z3 (Z4 0 g.pv rfl rfl) ?_
  refine Q4 (fun st=>∃ b,(b=true→¬ q1x g area stripe)∧(b=false→q1x g area stripe)∧st=⟨⟨43,[(1,i64 area),(2,i64 stripe),(3,.p (.box g.pv)),(28,bl b)]⟩,[]⟩) (y7 hT ?_) ?_
  ·refine Q1 (Q5 wm _ rfl rfl) ?_
   unfold q1x
   refine u9 (fun h=>?_) (fun h=>?_)
   ·have h:(!g.may)=true:=h
    rw[Bool.not_eq_true']at h
    exact⟨_,z8 [] [1,2,3,28] rfl,true,fun _ e=>(by rw[h]at e;exact absurd e.1 (by decide)),fun e=>(by cases e),rfl⟩
   have h0:g.may=true:=by
    have h:(!g.may)=false:=h
    rwa [Bool.not_eq_false']at h
   refine u9 (fun h=>?_) (fun h=>?_)
   ·have h1:=k0z (show decide (area<0)=true from h)
    exact⟨_,z8 [] [1,2,3,28] rfl,true,fun _ e=>by omega,fun e=>(by cases e),rfl⟩
   have h1:=k0y (show decide (area<0)=false from h)
   refine u9 (fun h=>?_) (fun h=>?_)
   ·have h2:=k0z (show decide (area≥2)=true from h)
    exact⟨_,z8 [] [1,2,3,28] rfl,true,fun _ e=>by omega,fun e=>(by cases e),rfl⟩
   have h2:=k0y (show decide (area≥2)=false from h)
   refine u9 (fun h=>?_) (fun h=>?_)
   ·have h3:=k0z (show decide (stripe<0)=true from h)
    exact⟨_,z8 [] [1,2,3,28] rfl,true,fun _ e=>by omega,fun e=>(by cases e),rfl⟩
   have h3:=k0y (show decide (stripe<0)=false from h)
   refine⟨_,z8 [] [1,2,3,28] rfl,decide (stripe≥g.s),fun e=>?_,fun e=>?_,rfl⟩
   ·have:=k0z e
    omega
   ·have:=k0y e
    exact⟨h0,by omega,by omega,by omega,by omega⟩
  ·rintro _ ⟨b,hb1,hb2,rfl⟩
   refine y8 (u9 (fun h=>?_) (fun h=>?_))
   ·refine y6 hT ?_
    refine u5 ?_
    exact x8 [] ⟨(0,1),(z4r (hb1 h)).symm,rfl,rfl⟩ rfl
   ·exact x7 ⟨z8 [] [1,2,3] rfl,hb2 h⟩
 have hz:=z0t hok
 obtain⟨hm,a0,a1,s0,s1⟩:=hok
 obtain⟨h1,h2,h3,h4,h5,h6,h7,h8⟩:=V7 (V5 hm)
 obtain⟨n,hn⟩:∃ n:Nat,g.k+g.m=n:=⟨(g.k+g.m).toNat,by omega⟩
 have e1:0≤area*g.s∧area*g.s≤g.s:=by
  rcases (show area=0∨area=1 by omega) with rfl|rfl <;> omega
 obtain⟨t,ht⟩:∃ t,t=area*g.s+stripe:=⟨_,rfl⟩
 have wM:=y3b g t hm (by omega) (by omega) n hn _ rfl
 have hfst:g.at_ area stripe=4+2*g.w+t*(g.k+g.m):=by unfold GeoV.at_;rw[ht]
 rw[hfst]at hz
 generalize 4+2*g.w+t*(g.k+g.m)=first at *
 have hg0:(z2f first n n)[((0:Nat):Int).toNat]?=some [.raw (.int .i64 first)]:=by
  show (z2f first n n)[0]?=_
  rw[z0s (by omega),if_pos (by omega)]
  simp
 generalize z2f first n n=R at *
 have hwr:IntKind.i64.wrap (IntKind.i64.wrap (IntKind.i64.wrap (1+g.w)+IntKind.i64.wrap (area*g.s))+stripe)=1+g.w+t:=by
  rw[Q0 (1+g.w) (by omega) (by omega),Q0 (area*g.s) (by omega) (by omega),Q0 (1+g.w+area*g.s) (by omega) (by omega),Q0 _ (by omega) (by omega)]
  omega
 rw[← hwr]at wM
 refine y6 hT ?_
 refine Q1 (q1h wM _ rfl) ?_
 refine⟨⟨by omega,by omega⟩,?_⟩
 refine Z2 hg0 ?_
 refine u5 ?_
 exact x8 [] ⟨(first,0),hz.symm,rfl,rfl⟩ rfl
def q4f (l:List Int):Bool:=l.all fun n=>decide (0≤n)&&decide (n≤4294967295)
def Y8 (l:List Int):List (List PV):=l.map fun n=>([.raw (.int .i64 n)]:List PV)
theorem V6 (l:List Int):(Y8 l).length=l.length:=k1x _
theorem q2r {l:List Int}{i:Nat}{n:Int}(h:l[i]?=some n):(Y8 l)[i]?=some [.raw (.int .i64 n)]:=by rw[Y8,k1z,h];rfl
theorem x1m (l:List Int)(hl:l.length≤64):AF k0q x6z [.p (.sl 1 (Y8 l))] [] (Q9 (bl (q4f l)) []):=by
 refine AF.mono (R:=fun r H'=>∃ z,z=q4f l∧r=bl z∧H'=[]) ?_ (by rintro r H' ⟨z,rfl,rfl,rfl⟩;exact⟨rfl,rfl⟩)
 have hxl:=V6 l
 unfold q4f
 refine Q8 hT Tryz.func113 rfl rfl Tryz.ntmps113 rfl ?_
 refine y6 hT ?_
 refine u0 ⟨⟨18,[]⟩,[]⟩ (q4f l=true) (y6 hT ?_) (fun hw=>?_)
 ·refine x3 ?_
  refine Q3 (fun n s=>∃ (k:Nat) (j:Int),n+k=l.length∧j=k∧(∀ i n,i<k→l[i]?=some n→0≤n∧n≤4294967295)∧s=⟨⟨18,[(5,.p (.sl 1 (Y8 l))),(6,i64 (Y8 l).length),(7,i64 j)]⟩,[]⟩) l.length ⟨⟨18,_⟩,_⟩ (z8 [] [5,6,7] rfl) ⟨0,0,rfl,rfl,fun i n h=>by omega,rfl⟩ ?_
  rintro n s ⟨k,j,hnk,hj,hall,rfl⟩
  refine y6 hT ?_
  refine u6 (y8 (u9 (fun h=>?_) (fun h=>?_)))
  ·have h:=k0z (show decide (j<(((Y8 l).length:Nat):Int))=true from h)
   have hk:k<l.length:=by omega
   refine x7 ?_
   have hx:=k0w hk
   have hmem:=k1w hk
   generalize l[k]=x at hx hmem
   have hxp:(Y8 l)[j.toNat]?=some [.raw (.int .i64 x)]:=by rw[hj,k0u];exact q2r hx
   refine u0 ⟨⟨18,[(5,.p (.sl 1 (Y8 l))),(6,i64 (Y8 l).length),(7,i64 j)]⟩,[]⟩ (0≤x∧x≤4294967295) (x3 (y6 hT ?_)) (fun hxr=>?_)
   ·refine⟨by omega,Z2 hxp ?_⟩
    have hno:¬ (0≤x∧x≤4294967295)→∃ z,z=(l.all fun n=>decide (0≤n)&&decide (n≤4294967295))∧bl false=bl z∧([]:List ABlk)=[]:=fun hn=>by
     refine⟨false,?_,rfl,rfl⟩
     refine(List.all_eq_false.mpr ⟨x,hmem,?_⟩).symm
     simp only[Bool.and_eq_true,decide_eq_true_eq]
     exact hn
    refine y6 hT ?_
    refine u9 (fun h=>?_) (fun h=>?_)
    ·have h1:=k0z (show decide (x<0)=true from h)
     refine y8 ?_
     refine y6 hT ?_
     refine u5 ?_
     exact x8 [] (hno (by omega)) rfl
    have h1:=k0y (show decide (x<0)=false from h)
    refine y8 (u9 (fun h=>?_) (fun h=>?_))
    ·have h2:=k0z (show decide (x > 4294967295)=true from h)
     refine y6 hT ?_
     refine u5 ?_
     exact x8 [] (hno (by omega)) rfl
    ·have h2:=k0y (show decide (x > 4294967295)=false from h)
     exact x7 ⟨z8 [] [5,6,7] rfl,by omega,by omega⟩
   ·refine y7 hT ?_
    refine⟨n - 1,by omega,_,z8 [] [5,6,7] rfl,k+1,IntKind.i64.wrap (j+1),by omega,by rw[Q0 _ (by omega) (by omega)];omega,fun i n hi hn=>?_,rfl⟩
    by_cases e:i=k
    ·subst e
     rw[hx]at hn
     obtain rfl:=k0x hn
     exact hxr
    ·exact hall i n (by omega) hn
  ·have h:=k0y (show decide (j<(((Y8 l).length:Nat):Int))=false from h)
   refine Q7 ?_
   refine⟨z8 [] [] rfl,List.all_eq_true.mpr fun x hx=>?_⟩
   obtain⟨i,hi,rfl⟩:=List.getElem_of_mem hx
   have:=hall i _ (by omega) (k0w hi)
   rw[k1t this.1,k1t this.2];rfl
 refine y6 hT ?_
 refine u5 ?_
 exact x8 [] ⟨true,hw.symm,rfl,rfl⟩ rfl
def z7y (w:Nat):Nat→List Int
 |0=>[0,0,0,0]
 |j+1=>z7y w j++(List.range w).map fun(i:Nat)=>1+(i:Int)
def z7z (w n:Nat):Nat→List Int
 |0=>z7y w 2
 |s+1=>z7z w n s++List.replicate n (1+(w:Int)+s)
theorem y0b (w:Nat):∀ j,(z7y w j).length=4+j*w
 |0=>by show 4=_;omega
 |j+1=>by unfold z7y;rw[k1y,y0b w j,k1x,k3q,Nat.succ_mul];omega
theorem z4s (w n:Nat):∀ s,(z7z w n s).length=4+2*w+s*n
 |0=>by unfold z7z;rw[y0b];omega
 |s+1=>by unfold z7z;rw[k1y,z4s w n s,k2z,Nat.add_mul s 1 n,Nat.one_mul];omega
theorem x9d (l:List Int)(n:Int):ix (l++[n])=ix l++[[.raw (.int .i64 n)]]:=by simp[ix]
theorem w6i (l:List Int):(ix l).length=l.length:=by simp[ix]
theorem x4u (g:GeoV)(hg:g.may=true)(w S n:Nat)(hw:g.w=w)(hS:g.s=S)(hn:g.k+g.m=n):AF k0q z3v [g.av] [] (Q9 (.msl 0 1 0 (ix (z7z w n (2*S))).length) [.row V1 1 (ix (z7z w n (2*S)))]):=by
 have wm:=z5p g
 rw[hg]at wm
 obtain⟨h1,h2,h3,h4,h5,h6,h7,h8⟩:=V7 (V5 hg)
 have hwn:IntKind.i64.wrap (g.k+g.m)=(n:Int):=by rw[Q0 _ (by omega) (by omega)];omega
 have hw2:IntKind.i64.wrap (2*g.s)=((2*S:Nat):Int):=by rw[Q0 _ (by omega) (by omega)];omega
 refine Q8 hT Tryz.func37 rfl rfl Tryz.ntmps37 rfl ?_
 refine y6 hT ?_
 refine Z3 (Z4 0 g.pv rfl rfl) ?_
 refine y6 hT ?_
 refine Q1 (Q5 wm _ rfl rfl) ?_
 refine u6 (y6 hT ?_)
 refine y8 ?_
 refine x7 ?_
 refine Q4 (fun st=>∃ X,X=z7y w 0∧st=⟨⟨54,[(1,.p (.box g.pv)),(4,.msl 0 1 0 (ix X).length)]⟩,[.row V1 1 (ix X)]⟩) (y7 hT ?_) ?_
 ·exact⟨_,z8 [1] [1,4] rfl,[0,0,0,0],rfl,rfl⟩
 rintro _ ⟨X0,hX0,rfl⟩
 refine Q4 (fun st=>∃ X,X=z7y w 2∧st=⟨⟨54,[(1,.p (.box g.pv)),(4,.msl 0 1 0 (ix X).length)]⟩,[.row V1 1 (ix X)]⟩) (y6 hT ?_) ?_
 ·refine x3 ?_
  refine Q3 (fun c st=>∃ (j:Nat) (jj:Int) (X:List Int),c+j=2∧jj=j∧X=z7y w j∧st=⟨⟨54,[(1,.p (.box g.pv)),(4,.msl 0 1 0 (ix X).length),(5,i64 jj)]⟩,[.row V1 1 (ix X)]⟩) 2 ⟨⟨54,_⟩,_⟩ (z8 [0] [1,4,5] rfl) ⟨0,0,X0,rfl,rfl,hX0,rfl⟩ ?_
  rintro c st ⟨j,jj,X,hcj,hjj,hX,rfl⟩
  refine u6 (y6 hT ?_)
  refine y8 (u9 (fun h=>?_) (fun h=>?_))
  ·have h:=k0z (show decide (jj<2)=true from h)
   refine x7 ?_
   have hml:=y0b w j
   have hjw:j*w≤2*512:=Nat.mul_le_mul (by omega) (by omega)
   refine Q4 (fun st=>∃ X,X=z7y w (j+1)∧st=⟨⟨54,[(1,.p (.box g.pv)),(4,.msl 0 1 0 (ix X).length),(5,i64 jj)]⟩,[.row V1 1 (ix X)]⟩) (x3 (y6 hT ?_)) ?_
   ·refine x3 ?_
    refine Q3 (fun c st=>∃ (i:Nat) (ji:Int) (X:List Int),c+i=w∧ji=i∧X=z7y w j++((List.range w).map fun(i:Nat)=>1+(i:Int)).take i∧st=⟨⟨54,[(1,.p (.box g.pv)),(4,.msl 0 1 0 (ix X).length),(5,i64 jj),(6,i64 ji)]⟩,[.row V1 1 (ix X)]⟩) w ⟨⟨54,_⟩,_⟩ (z8 [0] [1,4,5,6] rfl) ⟨0,0,X,by omega,rfl,by rw[List.take_zero,List.append_nil];exact hX,rfl⟩ ?_
    rintro c st ⟨i,ji,X,hci,hji,hX,rfl⟩
    refine u6 (y6 hT ?_)
    refine y8 (u9 (fun h=>?_) (fun h=>?_))
    ·have h:=k0z (show decide (ji<g.w)=true from h)
     have hi:i<w:=by omega
     refine x7 ?_
     have hXl:(ix X).length≤4+j*w+i:=by rw[w6i,hX,k1y,hml,k2u];omega
     have hnew:z7y w j++((List.range w).map fun(i:Nat)=>1+(i:Int)).take (i+1)=X++[IntKind.i64.wrap (1+ji)]:=by
      rw[k2t,k1z,k2s hi,hX,List.append_assoc,Q0 _ (by omega) (by omega),hji];rfl
     refine Q4 (fun st=>∃ X',X'=X++[IntKind.i64.wrap (1+ji)]∧st=⟨⟨54,[(1,.p (.box g.pv)),(4,.msl 0 1 0 (ix X').length),(5,i64 jj),(6,i64 ji)]⟩,[.row V1 1 (ix X')]⟩) (x3 (X6 (fun k=>Nat.beq 3 k) hT ?_)) ?_
     ·refine⟨⟨rfl,rfl⟩,?_⟩
      refine⟨rfl,⟨by show ((ix X).length+1)*8≤_;omega,by show (ix X).length+1≤_;omega⟩,?_⟩
      refine⟨_,z8 [1] [1,4,5,6] rfl,_,rfl,?_⟩
      rw[x9d];rfl
     ·rintro _ ⟨X',hX',rfl⟩
      refine y7 hT ?_
      exact⟨c - 1,by omega,_,z8 [0] [1,4,5,6] rfl,i+1,IntKind.i64.wrap (ji+1),X',by omega,by rw[Q0 _ (by omega) (by omega)];omega,by rw[hnew];exact hX',rfl⟩
    ·have h:=k0y (show decide (ji<g.w)=false from h)
     rw[List.take_of_length_le (by rw[k1x,k3q];omega)]at hX
     refine Q7 ?_
     exact⟨_,z8 [0] [1,4,5] rfl,X,hX,rfl⟩
   ·rintro _ ⟨X,hX,rfl⟩
    refine y7 hT ?_
    exact⟨c - 1,by omega,_,z8 [0] [1,4,5] rfl,j+1,IntKind.i64.wrap (jj+1),X,by omega,by rw[Q0 _ (by omega) (by omega)];omega,hX,rfl⟩
  ·have h:=k0y (show decide (jj<2)=false from h)
   rw[show j=2 by omega]at hX
   refine Q7 ?_
   exact⟨_,z8 [0] [1,4] rfl,X,hX,rfl⟩
 rintro _ ⟨X1,hX1,rfl⟩
 refine Q4 (fun st=>∃ X,X=z7z w n (2*S)∧st=⟨⟨54,[(4,.msl 0 1 0 (ix X).length)]⟩,[.row V1 1 (ix X)]⟩) (y6 hT ?_) ?_
 ·refine x3 ?_
  refine Q3 (fun c st=>∃ (j:Nat) (jj:Int) (X:List Int),c+j=2*S∧jj=j∧X=z7z w n j∧st=⟨⟨54,[(1,.p (.box g.pv)),(4,.msl 0 1 0 (ix X).length),(7,i64 jj)]⟩,[.row V1 1 (ix X)]⟩) (2*S) ⟨⟨54,_⟩,_⟩ (z8 [0] [1,4,7] rfl) ⟨0,0,X1,by omega,rfl,hX1,rfl⟩ ?_
  rintro c st ⟨j,jj,X,hcj,hjj,hX,rfl⟩
  refine u6 (y6 hT ?_)
  refine y8 (u9 (fun h=>?_) (fun h=>?_))
  ·have h:=k0z (show decide (jj<IntKind.i64.wrap (2*g.s))=true from h)
   rw[hw2]at h
   refine x7 ?_
   have hml:=z4s w n j
   have hjw:j*n≤64*24:=Nat.mul_le_mul (by omega) (by omega)
   refine Q4 (fun st=>∃ X,X=z7z w n (j+1)∧st=⟨⟨54,[(1,.p (.box g.pv)),(4,.msl 0 1 0 (ix X).length),(7,i64 jj)]⟩,[.row V1 1 (ix X)]⟩) (x3 (y6 hT ?_)) ?_
   ·refine x3 ?_
    refine Q3 (fun c st=>∃ (i:Nat) (ji:Int) (X:List Int),c+i=n∧ji=i∧X=z7z w n j++List.replicate i (1+(w:Int)+j)∧st=⟨⟨54,[(1,.p (.box g.pv)),(4,.msl 0 1 0 (ix X).length),(7,i64 jj),(8,i64 ji)]⟩,[.row V1 1 (ix X)]⟩) n ⟨⟨54,_⟩,_⟩ (z8 [0] [1,4,7,8] rfl) ⟨0,0,X,by omega,rfl,by rw[List.replicate_zero,List.append_nil];exact hX,rfl⟩ ?_
    rintro c st ⟨i,ji,X,hci,hji,hX,rfl⟩
    refine u6 (y6 hT ?_)
    refine y8 (u9 (fun h=>?_) (fun h=>?_))
    ·have h:=k0z (show decide (ji<IntKind.i64.wrap (g.k+g.m))=true from h)
     rw[hwn]at h
     refine x7 ?_
     have hXl:(ix X).length≤4+2*w+j*n+i:=by rw[w6i,hX,k1y,hml,k2z];omega
     have hnew:z7z w n j++List.replicate (i+1) (1+(w:Int)+j)=X++[IntKind.i64.wrap (IntKind.i64.wrap (1+g.w)+jj)]:=by
      rw[List.replicate_succ',hX,List.append_assoc,Q0 (1+g.w) (by omega) (by omega),Q0 _ (by omega) (by omega),hjj,hw]
     refine Q4 (fun st=>∃ X',X'=X++[IntKind.i64.wrap (IntKind.i64.wrap (1+g.w)+jj)]∧st=⟨⟨54,[(1,.p (.box g.pv)),(4,.msl 0 1 0 (ix X').length),(7,i64 jj),(8,i64 ji)]⟩,[.row V1 1 (ix X')]⟩) (x3 (X6 (fun k=>Nat.beq 6 k) hT ?_)) ?_
     ·refine⟨⟨rfl,rfl⟩,?_⟩
      refine⟨rfl,⟨by show ((ix X).length+1)*8≤_;omega,by show (ix X).length+1≤_;omega⟩,?_⟩
      refine⟨_,z8 [1] [1,4,7,8] rfl,_,rfl,?_⟩
      rw[x9d];rfl
     ·rintro _ ⟨X',hX',rfl⟩
      refine y7 hT ?_
      exact⟨c - 1,by omega,_,z8 [0] [1,4,7,8] rfl,i+1,IntKind.i64.wrap (ji+1),X',by omega,by rw[Q0 _ (by omega) (by omega)];omega,by rw[hnew];exact hX',rfl⟩
    ·have h:=k0y (show decide (ji<IntKind.i64.wrap (g.k+g.m))=false from h)
     rw[hwn]at h
     rw[show i=n by omega]at hX
     refine Q7 ?_
     exact⟨_,z8 [0] [1,4,7] rfl,X,hX,rfl⟩
   ·rintro _ ⟨X,hX,rfl⟩
    refine y7 hT ?_
    exact⟨c - 1,by omega,_,z8 [0] [1,4,7] rfl,j+1,IntKind.i64.wrap (jj+1),X,by omega,by rw[Q0 _ (by omega) (by omega)];omega,hX,rfl⟩
  ·have h:=k0y (show decide (jj<IntKind.i64.wrap (2*g.s))=false from h)
   rw[hw2]at h
   rw[show j=2*S by omega]at hX
   refine Q7 ?_
   exact⟨_,z8 [0] [4] rfl,X,hX,rfl⟩
 rintro _ ⟨X,hX,rfl⟩
 rw[hX]
 refine y6 hT ?_
 refine u5 ?_
 exact x8 [0] ⟨rfl,rfl⟩ rfl
def Dev.tryK:Nat→Dev→Int→x9→Int × Dev
 |0,D,_,_=>(22,D)
 |n+1,D,a,s=>match (D.once a s).1.2 != 0 with
  |true=>((D.once a s).1.2,(D.once a s).2)
  |false=>match (D.once a s).1.1 with
   |true=>(0,(D.once a s).2)
   |false=>Dev.tryK n (D.once a s).2 a s
def Dev.one (D:Dev)(a:Int)(s:x9):Int × Dev:=Dev.tryK 4 D a s
def y3z (e m:Int):Int:=match e==0 with|true=>IntKind.i64.wrap (m+1)|false=>m
theorem y4p {D:Dev}{b:Nat}(h:D.Ok b)(a:Int)(s:x9):(D.once a s).2.Ok (b+1):=by
 unfold Dev.once
 split
 ·exact h.write a s
 split
 ·exact(h.write a s).flush
 ·unfold Dev.hhas
  split
  ·exact(h.write a s).flush.read a
  ·exact(h.write a s).flush.read a
theorem w6j:∀ (n:Nat) {D:Dev} {b:Nat},D.Ok b→∀ (a:Int) (s:x9),(Dev.tryK n D a s).2.Ok (b+n)
 |0,D,b,h,a,s=>h
 |n+1,D,b,h,a,s=>by
  unfold Dev.tryK
  split
  ·exact(y4p h a s).mono (by omega)
  split
  ·exact(y4p h a s).mono (by omega)
  ·rw[show b+(n+1)=b+1+n by omega]
   exact w6j n (y4p h a s) a s
theorem v9a {D:Dev}{b:Nat}(h:D.Ok b)(a:Int)(s:x9):(D.one a s).2.Ok (b+4):=w6j 4 h a s
theorem v6b {D:Dev}{a:Int}{s:x9}(h:(D.once a s).1.1=true):(D.once a s).1.2=0:=by
 unfold Dev.once at h ⊢
 split at h
 ·simp at h
 split at h
 ·simp at h
 ·unfold Dev.hhas at h ⊢
  split at h
  ·simp at h
  ·have h:((((D.write a s).2.flush.2.read a).1.2==0)&&_)=true:=h
   rw[k1u]at h
   have:=h.1
   simpa using this
theorem v6c (D:Dev)(m a:Int)(s:x9)(b:Nat)(hD:D.Ok b)(hb:b+4<1000000):AFm k0q 2 z2r [.ref 0 0,w5u a s] (hH D m) (Q9 (i64 (D.one a s).1) (hH (D.one a s).2 (y3z (D.one a s).1 m))):=by
 refine Z6 2 hT Tryz.func75 rfl rfl Tryz.ntmps75 rfl rfl ?_
 refine y6 hT ?_
 refine Z3 (Z4 4 [.raw (.int .i64 a),bP s] rfl rfl) ?_
 refine Q4 (fun s1=>∃ E,D.one a s=(22,E)∧s1=⟨⟨29,[]⟩,hH E m⟩) (y6 hT ?_) ?_
 ·refine x3 ?_
  refine Q3 (fun n s1=>∃ (i:Nat) (j:Int) (E:Dev),n+i=4∧j=i∧E.Ok (b+i)∧D.one a s=Dev.tryK n E a s∧s1=⟨⟨29,[(0,.ref 0 0),(3,.p (.box [.raw (.int .i64 a),bP s])),(7,i64 j)]⟩,hH E m⟩) 4 ⟨⟨29,_⟩,[_,_,_,_]⟩ (z8 [0,1,2,3] [0,3,7] rfl) ⟨0,0,D,rfl,rfl,hD,rfl,rfl⟩ ?_
  rintro n s1 ⟨i,j,E,hni,rfl,hE,hone,rfl⟩
  refine y6 hT ?_
  refine u6 (y8 (u9 (fun h=>?_) (fun h=>?_)))
  ·have hi:i<4:=by
    have:=k0z (show decide ((i:Int)<4)=true from h)
    omega
   obtain⟨n,rfl⟩:∃ k,n=k+1:=⟨n - 1,by omega⟩
   have w:=w8n E m a s (b+i) hE (by omega)
   have ok:=y4p hE a s
   have herr:=@v6b E a s
   unfold Dev.tryK at hone
   generalize E.once a s=Y at w ok hone herr
   obtain⟨⟨y1,y2⟩,E2⟩:=Y
   refine x7 ?_
   refine u0 ⟨⟨29,[(0,.ref 0 0),(3,.p (.box [.raw (.int .i64 a),bP s])),(7,i64 i)]⟩,hH E2 m⟩ (y2=0∧y1=false) (x3 (y6 hT ?_)) ?_
   ·refine Q1 (Z7 [0,1,2,3] w rfl rfl rfl) ?_
    refine x3 ?_
    refine y6 hT ?_
    refine y8 (u9 (fun h1=>?_) (fun h1=>?_))
    ·have h1:(y2 != 0)=true:=h1
     have e:D.one a s=(y2,E2):=by rw[hone];simp only;rw[h1]
     refine y6 hT ?_
     refine u5 ?_
     rw[e]
     have hm:y3z y2 m=m:=by unfold y3z;rw[show (y2==0)=false by simpa using h1]
     rw[hm]
     exact x8 [0,1,4,5] ⟨rfl,rfl⟩ rfl
    ·have h1:(y2 != 0)=false:=h1
     refine y6 hT ?_
     refine y8 (u9 (fun h2=>?_) (fun h2=>?_))
     ·have h2:y1=true:=h2
      have e:D.one a s=(0,E2):=by rw[hone];simp only;rw[h1,h2]
      refine y6 hT ?_
      refine y6 hT ?_
      refine u5 ?_
      rw[e]
      exact x8 [0,1,4,5] ⟨rfl,rfl⟩ rfl
     ·exact x7 ⟨z8 [0,1,4,5] [0,3,7] rfl,by simpa using h1,h2⟩
   ·rintro⟨h1,h2⟩
    have e:D.one a s=Dev.tryK n E2 a s:=by rw[hone];simp only;rw[show (y2 != 0)=false by simpa using h1,h2]
    refine y7 hT ?_
    refine⟨n,by omega,_,z8 [0,1,2,3] [0,3,7] rfl,i+1,IntKind.i64.wrap ((i:Int)+1),E2,by omega,?_,by rw[← Nat.add_assoc];exact ok,e,rfl⟩
    rw[Q0 _ (by omega) (by omega)];rfl
  ·have hi:¬ (i:Int)<4:=k0y h
   have hn0:n=0:=by omega
   subst hn0
   refine Q7 ?_
   exact⟨_,z8 [0,1,2,3] [] rfl,E,hone,rfl⟩
 ·rintro _ ⟨E,e,rfl⟩
  refine y6 hT ?_
  refine u5 ?_
  rw[e]
  exact x8 [0,1,2,3] ⟨rfl,rfl⟩ rfl
structure Put9 where
 at_:Int
 s:x9
def Put9.pv (x:Put9):List PV:=[.raw (.int .i64 x.at_),bP x.s]
def px (l:List Put9):List (List PV):=l.map Put9.pv
theorem z8a (l:List Put9):(px l).length=l.length:=by simp[px]
theorem v6d {l:List Put9}{i:Nat}{c:Put9}(h:l[i]?=some c):(px l)[i]?=some c.pv:=by rw[px,k1z,h];rfl
def q4g (g:Dev→Int→Int→x9→Int × (Dev × Int)):List Put9→Dev→Int→Int × (Dev × Int)
 |[],D,m=>(0,(D,m))
 |x :: r,D,m=>match (g D m x.at_ x.s).1 != 0 with
  |true=>g D m x.at_ x.s
  |false=>q4g g r (g D m x.at_ x.s).2.1 (g D m x.at_ x.s).2.2
theorem q8q (g:Dev→Int→Int→x9→Int × (Dev × Int))(x:Put9)(r:List Put9)(D:Dev)(m:Int):q4g g (x :: r) D m=match (g D m x.at_ x.s).1 != 0 with
 |true=>g D m x.at_ x.s
 |false=>q4g g r (g D m x.at_ x.s).2.1 (g D m x.at_ x.s).2.2:=rfl
def v6e (f:FuncId)(g:Dev→Int→Int→x9→Int × (Dev × Int)):Prop:=∀ (D:Dev) (m a:Int) (s:x9) (b:Nat),D.Ok b→b+4<1000000 →
 AFm k0q 2 f [.ref 0 0,w5u a s] (hH D m) (Q9 (i64 (g D m a s).1) (hH (g D m a s).2.1 (g D m a s).2.2))∧(g D m a s).2.1.Ok (b+4)
theorem w6k {f:FuncId}{g:Dev→Int→Int→x9→Int × (Dev × Int)}(hg:v6e f g):∀ (l:List Put9) {D:Dev} {m:Int} {b:Nat},D.Ok b→b+4*l.length<1000000→(q4g g l D m).2.1.Ok (b+4*l.length)
 |[],D,m,b,h,_=>h
 |x :: r,D,m,b,h,hb=>by
  simp only[List.length_cons]at hb
  have h1:=(hg D m x.at_ x.s b h (by omega)).2
  unfold q4g
  split
  ·exact h1.mono (by simp only[List.length_cons];omega)
  ·rw[show b+4*(x :: r).length=b+4+4*r.length by simp only[List.length_cons];omega]
   exact w6k hg r h1 (by omega)
theorem w9w {f:FuncId}{g:Dev→Int→Int→x9→Int × (Dev × Int)}(hg:v6e f g)(l:List Put9)(D:Dev)(m:Int)(b:Nat)(hD:D.Ok b)(hb:b+4*l.length<1000000) :
 AFm k0q 2 x6x [.p (.sl 2 (px l)),.mth (.func f) [.ref 0 0]] (hH D m) (Q9 (i64 (q4g g l D m).1) (hH (q4g g l D m).2.1 (q4g g l D m).2.2)):=by
 refine Z6 2 hT Tryz.func74 rfl rfl Tryz.ntmps74 rfl rfl ?_
 refine y6 hT ?_
 refine Q4 (fun s1=>∃ E k,q4g g l D m=(0,(E,k))∧s1=⟨⟨21,[]⟩,hH E k⟩) (y6 hT ?_) ?_
 ·refine x3 ?_
  refine Q3 (fun n s1=>∃ (i:Nat) (j:Int) (E:Dev) (k:Int),n+i=l.length∧j=i∧E.Ok (b+4*i)∧q4g g l D m=q4g g (l.drop i) E k∧s1=⟨⟨21,[(1,.mth (.func f) [.ref 0 0]),(8,.p (.sl 2 (px l))),(9,i64 l.length),(10,i64 j)]⟩,hH E k⟩) l.length ⟨⟨21,_⟩,[_,_,_,_]⟩ (z8 [0,1,2,3] [1,8,9,10] rfl) ⟨0,0,D,m,rfl,rfl,hD,rfl,by rw[← z8a l];rfl⟩ ?_
  rintro n s1 ⟨i,j,E,k,hni,rfl,hE,he,rfl⟩
  refine y6 hT ?_
  refine u6 (y8 (u9 (fun h=>?_) (fun h=>?_)))
  ·have hi:i<l.length:=by
    have:=k0z (show decide ((i:Int)<(l.length:Int))=true from h)
    omega
   have hx:=k0w hi
   have hdr:l.drop i=l[i] :: l.drop (i+1):=List.drop_eq_getElem_cons hi
   generalize l[i]=x at hx hdr
   have hxp:(px l)[((i:Nat):Int).toNat]?=some x.pv:=by rw[k0u];exact v6d hx
   obtain⟨w,ok⟩:=hg E k x.at_ x.s (b+4*i) hE (by omega)
   rw[hdr,q8q]at he
   generalize g E k x.at_ x.s=Y at w ok he
   obtain⟨e,E2,k2⟩:=Y
   refine x7 ?_
   refine u0 ⟨⟨21,[(1,.mth (.func f) [.ref 0 0]),(8,.p (.sl 2 (px l))),(9,i64 l.length),(10,i64 i)]⟩,hH E2 k2⟩ (e=0) (x3 (y6 hT ?_)) ?_
   ·refine⟨k2w _,Z2 hxp ?_⟩
    refine y6 hT ?_
    refine Q1 (Z7 [0,1,2,3] w rfl rfl rfl) ?_
    refine y6 hT ?_
    refine y8 (u9 (fun h1=>?_) (fun h1=>?_))
    ·have h1:(e != 0)=true:=h1
     have e1:q4g g l D m=(e,(E2,k2)):=by rw[he];simp only;rw[h1]
     refine y6 hT ?_
     refine u5 ?_
     rw[e1]
     exact x8 [0,1,5,6] ⟨rfl,rfl⟩ rfl
    ·have h1:(e != 0)=false:=h1
     exact x7 ⟨z8 [0,1,5,6] [1,8,9,10] rfl,by simpa using h1⟩
   ·intro h1
    have e1:q4g g l D m=q4g g (l.drop (i+1)) E2 k2:=by rw[he];simp only;rw[show (e != 0)=false by simpa using h1]
    refine y7 hT ?_
    refine⟨n - 1,by omega,_,z8 [0,1,2,3] [1,8,9,10] rfl,i+1,IntKind.i64.wrap ((i:Int)+1),E2,k2,by omega,?_,by rw[show b+4*(i+1)=b+4*i+4 by omega];exact ok,e1,rfl⟩
    rw[Q0 _ (by omega) (by omega)];rfl
  ·have hi:¬ (i:Int)<(l.length:Int):=k0y h
   have hil:i=l.length:=by omega
   subst hil
   rw[List.drop_length]at he
   refine Q7 ?_
   exact⟨_,z8 [0,1,2,3] [] rfl,E,k,he,rfl⟩
 ·rintro _ ⟨E,k,e,rfl⟩
  refine y6 hT ?_
  refine u5 ?_
  rw[e]
  exact x8 [0,1,2,3] ⟨rfl,rfl⟩ rfl
def z3b (D:Dev)(m a:Int)(s:x9):Int × (Dev × Int):=((D.one a s).1,((D.one a s).2,y3z (D.one a s).1 m))
theorem x1n:v6e z2r z3b:=fun D m a s b hD hb=>⟨v6c D m a s b hD hb,v9a hD a s⟩
def Dev.all9 (D:Dev)(l:List Put9):Int × Dev:=((q4g z3b l D 0).1,(q4g z3b l D 0).2.1)
theorem y0c (D:Dev)(l:List Put9)(b:Nat)(hD:D.Ok b)(hb:b+4*l.length<1000000):AFm k0q 1 w2d [.ref 0 0,.p (.sl 2 (px l))] (Y3 D) (Q9 (i64 (D.all9 l).1) (Y3 (D.all9 l).2)):=by
 have w:=w9w x1n l D 0 b hD hb
 unfold Dev.all9
 generalize q4g z3b l D 0=Y at w
 obtain⟨e,E,k⟩:=Y
 refine Z6 1 hT Tryz.func45 rfl rfl Tryz.ntmps45 rfl rfl ?_
 refine y6 hT ?_
 refine y6 hT ?_
 refine Q1 (Z7 [3,0,1,2] w rfl rfl rfl) ?_
 refine u5 ?_
 exact x8 [0,4,5] ⟨rfl,rfl⟩ rfl
theorem w9x (l:List x9)(s:x9):w9 (l++[s])=w9 l++[[bP s]]:=by simp[w9]
def z6e (n:Nat)(b:x9):x9:=b++List.replicate (n - b.length) 0
theorem y0d {n:Nat}{b:x9}(h:b.length≤n):(z6e n b).length=n:=by unfold z6e;rw[k1y,k2z];omega
theorem v6f {n:Nat}{b:x9}:U0 (List.replicate n [u8 0]) 0 (bx b)=bx (z6e n b):=by
 have hb:=Z1 b
 unfold z6e U0
 rw[q3w,List.take_zero,List.nil_append,List.drop_replicate,Nat.zero_add,hb]
 unfold bx
 rw[List.map_replicate]
def w9y (P:x9)(i:Nat):x9:=(P.drop (228*i)).take 228
def q1q (P:x9)(k s:Nat):List x9:=(List.range k).map fun j=>w9y P (s*k+j)
theorem q9k (P:x9)(k s:Nat):(q1q P k s).length=k:=by unfold q1q;rw[k1x,k3q]
theorem x9e {P:x9}{k s j:Nat}(h:j<k):(q1q P k s)[j]?=some (w9y P (s*k+j)):=by
 unfold q1q;rw[k1z,k2s h];rfl
theorem v6g {P:x9}{i:Nat}(h:228*(i+1)≤P.length):(w9y P i).length=228:=by unfold w9y;rw[k2u,List.length_drop];omega
theorem q9m {P:x9}{k s:Nat}(h:228*((s+1)*k)≤P.length):∀ x∈q1q P k s,x.length=228:=fun x hx=>by
 unfold q1q at hx
 rw[List.mem_map]at hx
 obtain⟨j,hj,rfl⟩:=hx
 have hj:=List.mem_range.mp hj
 refine v6g (Nat.le_trans (Nat.mul_le_mul_left 228 ?_) h)
 rw[Nat.succ_mul];omega
abbrev u3c (b:Nat)(O:List Put9):ABlk:=.cells q1k [.msl b 2 0 (px O).length]
abbrev shJ (L:ABlk)(x:List Put9 × List ABlk):List ABlk:=.cells q1k [.p (.raw (.slice none 0 0))] :: .cells q1j [i64 0] :: u3c 4 x.1 :: L :: .row W0 2 (px x.1) :: x.2
abbrev shK (L:ABlk)(O:List Put9):List ABlk:=[.cells q1k [.p (.raw (.slice none 0 0))],.cells q1j [i64 0],u3c 6 O,L,.dead,.dead,.row W0 2 (px O)]
theorem w9z {q:RecK}{l:List AV}{O O':List Put9}{D:List x9}{s k:Nat}(hl:J0 4 l=true)
 (h:AYm k0q 4 3 [i64 s,.msl 5 1 0 k] (shJ (.lp q .ready none l) (O,[.row y9 1 (w9 D)])) (fun r H'=>r=bl true∧H'=shJ (.lp q .ready none l) (O',[]))) :
 AY k0q 3 [i64 s,.msl 5 1 0 k] (shJ (.lp q .ready none l) (O,[.row y9 1 (w9 D)])) (fun r H'=>r=bl true∧H'=shK (.lp q .ready none l) O'):=by
 have hid:∀ c,c<4→rho 6 [0,1,2,3,4,5] c=c:=fun c hc=>by
  rcases c with _|_|_|_|c
  ·rfl
  ·rfl
  ·rfl
  ·rfl
  ·omega
 have hid2:∀ c,c<4→q1g 6 [0,1,2,3] c=c:=fun c hc=>by
  rcases c with _|_|_|_|c
  ·rfl
  ·rfl
  ·rfl
  ·rfl
  ·omega
 refine v3k [0,1,2,3,4,5] h ⟨rfl,by decide,?_⟩ (show ∀ p∈[0,1,2,3,4,5],p<6 by decide) (by decide) rfl rfl ?_
 ·intro c k hk
  right
  rcases c with _|_|_|_|_|_|c
  ·obtain rfl:=k0x hk;exact⟨0,rfl,rfl⟩
  ·obtain rfl:=k0x hk;exact⟨1,rfl,rfl⟩
  ·obtain rfl:=k0x hk;exact⟨2,rfl,rfl⟩
  ·obtain rfl:=k0x hk
   refine⟨3,rfl,?_⟩
   show some (ABlk.lp q .ready none l)=some (ABlk.lp q .ready none (q3c (rho 6 [0,1,2,3,4,5]) l))
   rw[q2t hid l hl]
  ·obtain rfl:=k0x hk;exact⟨4,rfl,rfl⟩
  ·obtain rfl:=k0x hk;exact⟨5,rfl,rfl⟩
  ·simp at hk
 ·rintro r1 H1' ⟨rfl,rfl⟩
  refine⟨show 4≤5 by decide,rfl,?_⟩
  show [_,_,_,ABlk.lp q .ready none (q3c (q1g 6 [0,1,2,3]) l),_,_,_]=_
  rw[q2t hid2 l hl]
  rfl
theorem w3u (g:GeoV)(hg:g.may=true)(S k R:Nat)(hs:g.s=S)(hk:g.k=k)(hR:R=228*(S*k))(b:x9)(hb:b.length≤R)(q:RecK)(l:List AV)(hl:J0 4 l=true)(O:Nat→List Put9)
 (hy:∀ s,s<S→AYm k0q 4 3 [i64 s,.msl 5 1 0 k] (shJ (.lp q .ready none l) (O s,[.row y9 1 (w9 (q1q (z6e R b) k s))])) (fun r H'=>r=bl true∧H'=shJ (.lp q .ready none l) (O (s+1),[]))) :
 AFm k0q 4 q7h [.yld 3,.p (.box g.pv),.p (.box [bP b])] (shJ (.lp q .ready none l) (O 0,[])) (fun _ H'=>H'=shJ (.lp q .ready none l) (O S,[])):=by
 obtain⟨h1,h2,h3,h4,h5,h6,h7,h8⟩:=V7 (V5 hg)
 have hSk:S*k≤32*16:=Nat.mul_le_mul (by omega) (by omega)
 have wR:=y7f g
 rw[show g.room=(R:Int) by unfold GeoV.room;rw[hg,hs,hk,hR];show (S:Int)*k*228=_;rw[Nat.mul_comm];simp]at wR
 have hpl:=y0d hb
 have hps:=v6f (n:=R) (b:=b)
 have hbl:=Z1 b
 generalize z6e R b=P at hy hpl hps
 refine Z6 4 hT Tryz.func161 rfl rfl Tryz.ntmps161 rfl rfl ?_
 refine u0 ⟨⟨36,[(0,.yld 3),(1,.p (.box g.pv)),(2,.p (.box [bP b])),(4,.msl 5 1 0 R)]⟩,shJ (.lp q .ready none l) (O 0,[.row x6 1 (List.replicate R [u8 0])])⟩ True (y7 hT ?_) (fun _=>?_)
 ·refine Q1 (Q5 wR _ rfl rfl) ?_
  refine⟨⟨rfl,by omega,by show (R:Int)*1≤_;omega,by omega⟩,?_⟩
  exact⟨U9 3 [0,1,2,3,4,5] [0,1,2,4] _ rfl hl rfl rfl rfl,trivial⟩
 refine u0 ⟨⟨36,[(0,.yld 3),(1,.p (.box g.pv)),(4,bA P)]⟩,shJ (.lp q .ready none l) (O 0,[])⟩ True (y7 hT ?_) (fun _=>?_)
 ·refine⟨⟨?_,?_⟩,?_⟩
  ·show 0+R≤(List.replicate R _).length
   rw[k2z];omega
  ·show (bx b).length≤R
   omega
  have hSl:(U0 (List.replicate R [u8 0]) 0 (bx b)).length=R:=by rw[hps,Z1,hpl]
  exact⟨Wk.trans (q1d 4 5 R hps hSl.symm rfl rfl) (U9 3 [0,1,2,3,4] [0,1,4] _ rfl hl rfl rfl rfl),trivial⟩
 refine y6 hT ?_
 refine x3 ?_
 refine Q3 (fun n st=>∃ (s:Nat) (js Sv:Int) (rest:x9) (o:List Put9),n+s=S∧js=s∧Sv=S∧rest=P.drop (228*(s*k))∧o=O s∧st=⟨⟨36,[(0,.yld 3),(1,.p (.box g.pv)),(4,bA rest),(14,i64 Sv),(15,i64 js)]⟩,shJ (.lp q .ready none l) (o,[])⟩) S ⟨⟨36,_⟩,_⟩ (U9 3 [0,1,2,3,4] [0,1,4,14,15] _ rfl hl rfl rfl rfl) ⟨0,0,g.s,P,O 0,by omega,rfl,hs,by rw[Nat.zero_mul,Nat.mul_zero,List.drop_zero],rfl,rfl⟩ ?_
 clear hps hbl hb
 rintro n st ⟨s,js,Sv,rest,o,hns,hjs,hSv,hrest,ho,rfl⟩
 refine y6 hT ?_
 refine u6 (y8 (u9 (fun h=>?_) (fun h=>?_)))
 ·have h:=k0z (show decide (js<Sv)=true from h)
  have hsS:s<S:=by omega
  refine x7 ?_
  have hy:=hy s hsS
  rw[← ho]at hy
  have hroom:228*((s+1)*k)≤P.length:=by
   rw[hpl,hR]
   exact Nat.mul_le_mul_left 228 (k2v k hsS)
  have hDl:=q9k P k s
  have hDg:=fun j hj=>x9e (P:=P) (k:=k) (s:=s) (j:=j) hj
  generalize q1q P k s=D at hy hDl hDg
  refine Q4 (fun st=>∃ rest,rest=P.drop (228*((s+1)*k))∧st=⟨⟨36,[(0,.yld 3),(1,.p (.box g.pv)),(4,bA rest),(14,i64 Sv),(15,i64 js)]⟩,shJ (.lp q .ready none l) (O (s+1),[])⟩) (x3 (y6 hT ?_)) ?_
  ·refine u0 ⟨⟨36,[(0,.yld 3),(1,.p (.box g.pv)),(4,bA rest),(5,i64 js),(6,.msl 5 1 0 0),(14,i64 Sv),(15,i64 js)]⟩,shJ (.lp q .ready none l) (o,[.row y9 1 (w9 [])])⟩ True (y7 hT ?_) (fun _=>?_)
   ·exact⟨Wk.trans (W8 y9 1) (Wk.trans (q3u 6 5 1 0 rfl) (U9 3 [0,1,2,3,4,5] [0,1,4,5,6,14,15] _ rfl hl rfl rfl rfl)),trivial⟩
   refine Q4 (fun st=>∃ rest X,rest=P.drop (228*((s+1)*k))∧X=D∧st=⟨⟨36,[(0,.yld 3),(1,.p (.box g.pv)),(4,bA rest),(5,i64 js),(6,.msl 5 1 0 (w9 X).length),(14,i64 Sv),(15,i64 js)]⟩,shJ (.lp q .ready none l) (o,[.row y9 1 (w9 X)])⟩) (y6 hT ?_) ?_
   ·refine x3 ?_
    refine Q3 (fun n st=>∃ (j:Nat) (jj kv:Int) (rest:x9) (X:List x9),n+j=k∧jj=j∧kv=k∧rest=P.drop (228*(s*k+j))∧X=D.take j∧st=⟨⟨36,[(0,.yld 3),(1,.p (.box g.pv)),(4,bA rest),(5,i64 js),(6,.msl 5 1 0 (w9 X).length),(14,i64 Sv),(15,i64 js),(19,i64 kv),(20,i64 jj)]⟩,shJ (.lp q .ready none l) (o,[.row y9 1 (w9 X)])⟩) k ⟨⟨36,_⟩,_⟩ (U9 3 [0,1,2,3,4,5] [0,1,4,5,6,14,15,19,20] _ rfl hl rfl rfl rfl) ⟨0,0,g.k,rest,[],by omega,rfl,hk,hrest,rfl,rfl⟩ ?_
    rintro n st ⟨j,jj,kv,rest,X,hnj,hjj,hkv,hrest,hX,rfl⟩
    refine y6 hT ?_
    refine u6 (y8 (u9 (fun h=>?_) (fun h=>?_)))
    ·have h:=k0z (show decide (jj<kv)=true from h)
     have hjk:j<k:=by omega
     refine x7 ?_
     have hroom2:228*(s*k+j+1)≤P.length:=by
      refine Nat.le_trans (Nat.mul_le_mul_left 228 ?_) hroom
      rw[Nat.succ_mul];omega
     have hrl:rest.length=P.length - 228*(s*k+j):=by rw[hrest,List.length_drop]
     have hrl2:=Z1 rest
     have hXl:(w9 X).length=j:=by rw[Y6,hX,k2u];omega
     have e1:((bx rest).take (228:Int).toNat).drop (0:Int).toNat=bx (rest.take 228):=by rw[z9s];rfl
     have e2:((bx rest).take (((bx rest).length:Nat):Int).toNat).drop (228:Int).toNat=bx (rest.drop 228):=by rw[k0u,List.take_length,z1y];rfl
     have hrow:[[PV.sl 1 (((bx rest).take (228:Int).toNat).drop (0:Int).toNat)]]=[[bP (rest.take 228)]]:=by rw[e1]
     have hs0:AV.p (.sl 1 (((bx rest).take (((bx rest).length:Nat):Int).toNat).drop (228:Int).toNat))=bA (rest.drop 228):=by rw[e2]
     have hc:rest.take 228=w9y P (s*k+j):=by unfold w9y;rw[hrest]
     have hX2:X++[rest.take 228]=D.take (j+1):=by rw[show D.take (j+1)=D.take j++D[j]?.toList from k2t,hDg j hjk,hX,hc];rfl
     refine Q4 (fun st=>∃ rest' X',rest'=rest.drop 228∧X'=X++[rest.take 228]∧st=⟨⟨36,[(0,.yld 3),(1,.p (.box g.pv)),(4,bA rest'),(5,i64 js),(6,.msl 5 1 0 (w9 X').length),(14,i64 Sv),(15,i64 js),(19,i64 kv),(20,i64 jj)]⟩,shJ (.lp q .ready none l) (o,[.row y9 1 (w9 X')])⟩) (x3 ?_) ?_
     ·refine Z0 [3,4] [] hT u7 (by rfl) ?_
      refine⟨⟨Int.le_refl _,by decide,by omega⟩,?_⟩
      refine⟨rfl,⟨?_,?_⟩,?_⟩
      ·show ((w9 X).length+1)*24≤_
       omega
      ·show (w9 X).length+1≤_
       omega
      refine⟨⟨by decide,by omega,Int.le_refl _⟩,?_⟩
      repeat first|refine⟨rfl,?_⟩
      refine⟨_,U9 3 [0,1,2,3,4,7] [0,1,4,5,6,14,15,19,20] _ rfl hl rfl rfl rfl,rest.drop 228,X++[rest.take 228],rfl,rfl,?_⟩
      rw[w9x,← hrow,← hs0];rfl
     ·rintro _ ⟨rest',X',rfl,rfl,rfl⟩
      refine y7 hT ?_
      exact⟨n - 1,by omega,_,U9 3 [0,1,2,3,4,5] [0,1,4,5,6,14,15,19,20] _ rfl hl rfl rfl rfl,j+1,IntKind.i64.wrap (jj+1),kv,_,_,by omega,by rw[Q0 _ (by omega) (by omega)];omega,hkv,by rw[hrest,List.drop_drop];congr 1,hX2,rfl⟩
    ·have h:=k0y (show decide (jj<kv)=false from h)
     rw[List.take_of_length_le (by omega)]at hX
     have hjk:j=k:=by omega
     refine Q7 ?_
     exact⟨_,U9 3 [0,1,2,3,4,5] [0,1,4,5,6,14,15] _ rfl hl rfl rfl rfl,rest,X,by rw[hrest,hjk,Nat.add_mul s 1 k,Nat.one_mul],hX,rfl⟩
   ·rintro _ ⟨rest,X,hrest,rfl,rfl⟩
    have hXl:(w9 X).length=k:=by rw[Y6,hDl]
    have hy:=w9z hl hy
    rw[← hjs,← hXl]at hy
    refine y6 hT ?_
    refine⟨_,hy,?_⟩
    rintro r H' ⟨rfl,rfl⟩
    refine y8 ?_
    refine x7 ?_
    exact⟨_,U9 3 [0,1,2,3,6] [0,1,4,14,15] _ rfl hl rfl rfl rfl,rest,hrest,rfl⟩
  ·rintro _ ⟨rest,hrest,rfl⟩
   refine y7 hT ?_
   exact⟨n - 1,by omega,_,U9 3 [0,1,2,3,4] [0,1,4,14,15] _ rfl hl rfl rfl rfl,s+1,IntKind.i64.wrap (js+1),Sv,rest,O (s+1),by omega,by rw[Q0 _ (by omega) (by omega)];omega,hSv,hrest,rfl,rfl⟩
 ·have h:=k0y (show decide (js<Sv)=false from h)
  rw[show s=S by omega]at ho
  rw[ho]
  refine Q7 ?_
  exact⟨_,_,U9 3 [0,1,2,3,4] [0] _ rfl hl rfl rfl rfl,rfl⟩
theorem x9f (g:GeoV)(hg:g.may=true)(S k R:Nat)(hs:g.s=S)(hk:g.k=k)(hR:R=228*(S*k))(b:x9)(hb:b.length≤R)(q:RecK)(l:List AV)(hl:J0 4 l=true)(P:x9)(hP:z6e R b=P)(O:Nat→List Put9)(h0:O 0=[])
 (hy:∀ s,s<S→AYm k0q 4 3 [i64 s,.msl 5 1 0 k] (shJ (.lp q .ready none l) (O s,[.row y9 1 (w9 (q1q P k s))])) (fun r H'=>r=bl true∧H'=shJ (.lp q .ready none l) (O (s+1),[]))) :
 AFm k0q 4 q7h [.yld 3,.p (.box g.pv),.p (.box [bP b])] (shJ (.lp q .ready none l) ([],[])) (fun _ H'=>H'=shJ (.lp q .ready none l) (O S,[])):=by
 subst hP
 have:=w3u g hg S k R hs hk hR b hb q l hl O hy
 rwa [h0]at this
end Go.Proofs.YtkjklhcfgbaceaaGreat.AL
