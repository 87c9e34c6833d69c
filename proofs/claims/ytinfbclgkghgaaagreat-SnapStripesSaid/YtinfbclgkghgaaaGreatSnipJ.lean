/- A part of the proof. -/
import Derived.Test.YtinfbclgkghgaaaGreatSnipI
open List renaming getElem?_eq_getElem→k0x,getD_eq_getElem?_getD→k0w,getElem?_append_right→k0s,getElem?_map→k1q,length_map→k1y,getElem_mem→k1x,length_replicate→k2q,length_take→k2u,take_add_one→k2t,length_range→k3q
open Int renaming toNat_natCast→k0v
open Nat renaming le_refl→k1w
set_option maxHeartbeats 4000000
set_option maxRecDepth 20000
namespace Go.Proofs.YtinfbclgkghgaaaGreat.AL
open Go Go.Proofs
/-- A row of which the first ones are new. -/
def q2c (a t:z6)(k:Nat):z6:=a.take k++t.drop k
theorem q7n {a t:z6}(h:a.length=t.length):q2c a t t.length=a:=by unfold q2c;rw[← h,List.take_length,h,List.drop_length,List.append_nil]
theorem q7p {a t:z6}(h:a.length=t.length){k:Nat}(hk:k<t.length):(q2c a t k)[k]?=some t[k]:=by
 unfold q2c
 rw[k0s (by rw[k2u];omega),k2u,List.getElem?_drop,show k+(k - min k a.length)=k by omega,k0x hk]
theorem q7q {a t:z6}(h:a.length=t.length){k:Nat}(hk:k<t.length){v:UInt8}(hv:a[k]?=some v):(bx (q2c a t k)).set k [u8 v]=bx (q2c a t (k+1)):=by
 have e:q2c a t (k+1)=(q2c a t k).set k v:=by
  unfold q2c
  rw[List.set_append_right _ _ (by rw[k2u];omega),k2u,show k - min k a.length=0 by omega,k2t,hv,List.append_assoc,List.drop_eq_getElem_cons hk]
  rfl
 rw[e]
 unfold bx
 rw[List.map_set]
theorem u7 {l:z6}{k:Nat}{v:UInt8}(h:l[k]?=some v):(bx l)[k]?=some [u8 v]:=by rw[bx,k1q,h];rfl
def q0w (x:UInt8)(t:z6):z6:=t.map fun v=>Gf.mul v x
def J4 (to row:z6)(x:UInt8):z6:=List.zipWith (fun a b=>a ^^^ Gf.mul x b) to row
theorem q1t {to row:z6}(x:UInt8)(h:to.length=row.length):(J4 to row x).length=to.length:=by unfold J4;rw[List.length_zipWith];omega
theorem z3t (t:z6)(x:UInt8)(ht:t.length≤4096):AFm Tryz.prog 1 w0f [q2s,.msl 0 1 0 t.length,.p (u8 x)] [.row z1 1 (bx t)] (v8 (.tup []) [.row z1 1 (bx (q0w x t))]):=by
 have hl:(q0w x t).length=t.length:=k1y _
 have wmul:=fun v=>w6n v x
 unfold q2s at wmul ⊢
 generalize fP=F at wmul ⊢
 obtain⟨n,hn⟩:∃ n,n=t.length:=⟨_,rfl⟩
 rw[← hn]
 refine Q5 1 hT w0g rfl rfl w0h rfl rfl ?_
 refine q8 hT ?_
 refine z3 ?_
 refine y7 (fun m s=>∃ (k:Nat) (j:Int),m+k=n∧j=k∧s=⟨⟨23,[(0,.p (.box F)),(1,.msl 0 1 0 n),(2,.p (u8 x)),(8,.msl 0 1 0 n),(9,i64 n),(10,i64 j)]⟩,[.row z1 1 (bx (q2c (q0w x t) t k))]⟩) n ⟨⟨23,_⟩,_⟩ (q7 [0] [0,1,2,8,9,10] rfl) ⟨0,0,by omega,rfl,rfl⟩ ?_
 rintro m s ⟨k,j,hmk,hj,rfl⟩
 refine q8 hT ?_
 refine z8 (z4 (y4 (fun h=>?_) (fun h=>?_)))
 ·have h:=k0q (show decide (j<(n:Int))=true from h)
  have hk:k<t.length:=by omega
  refine z5 ?_
  have hg:=q7p hl hk
  have hv:(q0w x t)[k]?=some (Gf.mul t[k] x):=by unfold q0w;rw[k1q,k0x hk];rfl
  have hset:=q7q hl hk hv
  have w:=wmul t[k]
  generalize t[k]=v at hg hset w hv
  generalize Gf.mul v x=u at hset w hv
  have hjk:0+j.toNat=k:=by omega
  have hgx:(bx (q2c (q0w x t) t k))[0+j.toNat]?=some [u8 v]:=by rw[hjk];exact u7 hg
  refine y6 (fun st=>∃ X,X=bx (q2c (q0w x t) t (k+1))∧st=⟨⟨23,[(0,.p (.box F)),(1,.msl 0 1 0 n),(2,.p (u8 x)),(8,.msl 0 1 0 n),(9,i64 n),(10,i64 j)]⟩,[.row z1 1 X]⟩) (z3 ?_) ?_
  ·refine q8 hT ?_
   refine⟨⟨by omega,by omega⟩,?_⟩
   refine w9 hgx ?_
   refine q9 hT ?_
   refine x7 (w7 w _ rfl rfl) ?_
   refine⟨⟨by omega,by omega⟩,?_⟩
   refine w9 hgx ?_
   refine⟨_,q7 [0] [0,1,2,8,9,10] rfl,_,?_,rfl⟩
   show List.set (bx (q2c (q0w x t) t k)) (0+j.toNat) [u8 u]=_
   rw[hjk,hset]
  ·rintro _ ⟨X,rfl,rfl⟩
   refine q9 hT ?_
   exact⟨m - 1,by omega,_,q7 [0] [0,1,2,8,9,10] rfl,k+1,IntKind.i64.wrap (j+1),by omega,by rw[y8 _ (by omega) (by omega)];omega,rfl⟩
 ·have h:=k0z (show decide (j<(n:Int))=false from h)
  rw[show k=t.length by omega,q7n hl]
  refine x6 ?_
  exact z9 [0] ⟨rfl,rfl⟩ rfl
theorem z8c (to row:z6)(x:UInt8)(ht:to.length≤4096)(hr:to.length=row.length):AFm Tryz.prog 2 x1a [q2s,.msl 0 1 0 to.length,.msl 1 1 0 to.length,.p (u8 x)] [.row z1 1 (bx to),.row z1 1 (bx row)] (v8 (.tup []) [.row z1 1 (bx (J4 to row x)),.row z1 1 (bx row)]):=by
 have hl:=q1t x hr
 have hbl:=w6 row
 have wmul:=fun v=>w6n x v
 have wadd:=fun u v=>w6m q2s u v
 unfold q2s at wmul wadd ⊢
 generalize fP=F at wmul wadd ⊢
 obtain⟨n,hn⟩:∃ n,n=to.length:=⟨_,rfl⟩
 rw[← hn]
 refine Q5 2 hT x1b rfl rfl x1c rfl rfl ?_
 refine q8 hT ?_
 refine z3 ?_
 refine y7 (fun m s=>∃ (k:Nat) (j:Int),m+k=n∧j=k∧s=⟨⟨31,[(0,.p (.box F)),(1,.msl 0 1 0 n),(3,.p (u8 x)),(10,.msl 1 1 0 n),(11,i64 n),(12,i64 j)]⟩,[.row z1 1 (bx (q2c (J4 to row x) to k)),.row z1 1 (bx row)]⟩) n ⟨⟨31,_⟩,_⟩ (q7 [0,1] [0,1,3,10,11,12] rfl) ⟨0,0,by omega,rfl,rfl⟩ ?_
 rintro m s ⟨k,j,hmk,hj,rfl⟩
 refine q8 hT ?_
 refine z8 (z4 (y4 (fun h=>?_) (fun h=>?_)))
 ·have h:=k0q (show decide (j<(n:Int))=true from h)
  have hk:k<to.length:=by omega
  have hk2:k<row.length:=by omega
  refine z5 ?_
  have hg:=q7p hl hk
  have hrg:=k0x hk2
  have hv:(J4 to row x)[k]?=some (to[k] ^^^ Gf.mul x row[k]):=by unfold J4;rw[List.getElem?_zipWith,k0x hk,k0x hk2]
  have hset:=q7q hl hk hv
  have w:=wmul row[k]
  have w2:=wadd to[k] (Gf.mul x row[k])
  generalize to[k]=u at hg hset w2 hv
  generalize row[k]=v at hrg hset w w2 hv
  generalize Gf.mul x v=p at hset w w2 hv
  generalize u ^^^ p=q at hset w2 hv
  have hjk:0+j.toNat=k:=by omega
  have hgx:(bx (q2c (J4 to row x) to k))[0+j.toNat]?=some [u8 u]:=by rw[hjk];exact u7 hg
  have hrx:(bx row)[0+j.toNat]?=some [u8 v]:=by rw[show 0+j.toNat=k by omega];exact u7 hrg
  refine y6 (fun st=>∃ X,X=bx (q2c (J4 to row x) to (k+1))∧st=⟨⟨31,[(0,.p (.box F)),(1,.msl 0 1 0 n),(3,.p (u8 x)),(10,.msl 1 1 0 n),(11,i64 n),(12,i64 j)]⟩,[.row z1 1 (X),.row z1 1 (bx row)]⟩) (z3 ?_) ?_
  ·refine q8 hT ?_
   refine⟨⟨by omega,by omega⟩,?_⟩
   refine w9 hrx ?_
   refine v7 [13] [] hT y5 (by rfl) ?_
   refine⟨⟨by omega,by omega⟩,?_⟩
   refine w9 hgx ?_
   refine⟨_,w7 w _ rfl rfl,?_⟩
   refine⟨_,w7 w2 _ rfl rfl,?_⟩
   refine⟨⟨by omega,by omega⟩,?_⟩
   refine w9 hgx ?_
   repeat first|refine⟨rfl,?_⟩|refine⟨⟨_,w7 w _ rfl rfl,rfl⟩,?_⟩|refine⟨⟨_,w7 w2 _ rfl rfl,rfl⟩,?_⟩|refine⟨⟨⟨by omega,by omega⟩,rfl⟩,?_⟩|refine⟨w9 hgx rfl,?_⟩
   refine⟨_,q7 [0,1] [0,1,3,10,11,12] rfl,_,?_,rfl⟩
   show List.set (bx (q2c (J4 to row x) to k)) (0+j.toNat) [u8 q]=_
   rw[hjk,hset]
  ·rintro _ ⟨X,rfl,rfl⟩
   refine q9 hT ?_
   exact⟨m - 1,by omega,_,q7 [0,1] [0,1,3,10,11,12] rfl,k+1,IntKind.i64.wrap (j+1),by omega,by rw[y8 _ (by omega) (by omega)];omega,rfl⟩
 ·have h:=k0z (show decide (j<(n:Int))=false from h)
  rw[show k=to.length by omega,q7n hl]
  refine x6 ?_
  exact z9 [0,1] ⟨rfl,rfl⟩ rfl
theorem q5u (to row:z6)(x:UInt8)(ht:to.length≤4096)(hr:to.length=row.length):AFm Tryz.prog 1 x1a [q2s,.msl 0 1 0 to.length,bA row,.p (u8 x)] [.row z1 1 (bx to)] (v8 (.tup []) [.row z1 1 (bx (J4 to row x))]):=by
 have hl:=q1t x hr
 have hbl:=w6 row
 have wmul:=fun v=>w6n x v
 have wadd:=fun u v=>w6m q2s u v
 unfold q2s at wmul wadd ⊢
 generalize fP=F at wmul wadd ⊢
 obtain⟨n,hn⟩:∃ n,n=to.length:=⟨_,rfl⟩
 rw[← hn]
 refine Q5 1 hT x1b rfl rfl x1c rfl rfl ?_
 refine q8 hT ?_
 refine z3 ?_
 refine y7 (fun m s=>∃ (k:Nat) (j:Int),m+k=n∧j=k∧s=⟨⟨31,[(0,.p (.box F)),(1,.msl 0 1 0 n),(3,.p (u8 x)),(10,bA row),(11,i64 n),(12,i64 j)]⟩,[.row z1 1 (bx (q2c (J4 to row x) to k))]⟩) n ⟨⟨31,_⟩,_⟩ (q7 [0] [0,1,3,10,11,12] rfl) ⟨0,0,by omega,rfl,by rw[hn,hr,← hbl];rfl⟩ ?_
 rintro m s ⟨k,j,hmk,hj,rfl⟩
 refine q8 hT ?_
 refine z8 (z4 (y4 (fun h=>?_) (fun h=>?_)))
 ·have h:=k0q (show decide (j<(n:Int))=true from h)
  have hk:k<to.length:=by omega
  have hk2:k<row.length:=by omega
  refine z5 ?_
  have hg:=q7p hl hk
  have hrg:=k0x hk2
  have hv:(J4 to row x)[k]?=some (to[k] ^^^ Gf.mul x row[k]):=by unfold J4;rw[List.getElem?_zipWith,k0x hk,k0x hk2]
  have hset:=q7q hl hk hv
  have w:=wmul row[k]
  have w2:=wadd to[k] (Gf.mul x row[k])
  generalize to[k]=u at hg hset w2 hv
  generalize row[k]=v at hrg hset w w2 hv
  generalize Gf.mul x v=p at hset w w2 hv
  generalize u ^^^ p=q at hset w2 hv
  have hjk:0+j.toNat=k:=by omega
  have hgx:(bx (q2c (J4 to row x) to k))[0+j.toNat]?=some [u8 u]:=by rw[hjk];exact u7 hg
  have hrx:(bx row)[j.toNat]?=some [u8 v]:=by rw[show j.toNat=k by omega];exact u7 hrg
  refine y6 (fun st=>∃ X,X=bx (q2c (J4 to row x) to (k+1))∧st=⟨⟨31,[(0,.p (.box F)),(1,.msl 0 1 0 n),(3,.p (u8 x)),(10,bA row),(11,i64 n),(12,i64 j)]⟩,[.row z1 1 (X)]⟩) (z3 ?_) ?_
  ·refine q8 hT ?_
   refine⟨by omega,w9 hrx ?_⟩
   refine v7 [13] [] hT y5 (by rfl) ?_
   refine⟨⟨by omega,by omega⟩,?_⟩
   refine w9 hgx ?_
   refine⟨_,w7 w _ rfl rfl,?_⟩
   refine⟨_,w7 w2 _ rfl rfl,?_⟩
   refine⟨⟨by omega,by omega⟩,?_⟩
   refine w9 hgx ?_
   repeat first|refine⟨rfl,?_⟩|refine⟨⟨_,w7 w _ rfl rfl,rfl⟩,?_⟩|refine⟨⟨_,w7 w2 _ rfl rfl,rfl⟩,?_⟩|refine⟨⟨⟨by omega,by omega⟩,rfl⟩,?_⟩|refine⟨w9 hgx rfl,?_⟩
   refine⟨_,q7 [0] [0,1,3,10,11,12] rfl,_,?_,rfl⟩
   show List.set (bx (q2c (J4 to row x) to k)) (0+j.toNat) [u8 q]=_
   rw[hjk,hset]
  ·rintro _ ⟨X,rfl,rfl⟩
   refine q9 hT ?_
   exact⟨m - 1,by omega,_,q7 [0] [0,1,3,10,11,12] rfl,k+1,IntKind.i64.wrap (j+1),by omega,by rw[y8 _ (by omega) (by omega)];omega,rfl⟩
 ·have h:=k0z (show decide (j<(n:Int))=false from h)
  rw[show k=to.length by omega,q7n hl]
  refine x6 ?_
  exact z9 [0] ⟨rfl,rfl⟩ rfl
theorem q2d (n:Int)(h1:1≤n)(h2:n≤64):AF Tryz.prog w5f [i64 n] [] (v8 (bl true) []):=by
 refine AF.mono (R:=fun r H'=>∃ z,z=true∧r=bl z∧H'=[]) ?_ (by rintro r H' ⟨z,rfl,rfl,rfl⟩;exact⟨rfl,rfl⟩)
 refine v6 hT w5g rfl rfl w5h rfl ?_
 refine q8 hT ?_
 refine q8 hT ?_
 refine y4 (fun h=>?_) (fun h=>?_)
 ·refine y9 ?_
  exact z9 [] ⟨_,k1u h2,rfl,rfl⟩ rfl
 ·have h:=k0z (show decide (n≥1)=false from h)
  exact absurd h1 h
theorem J2 (L:List z6)(c:Nat)(h1:1≤L.length)(h2:L.length≤64)(c1:1≤c)(c2:c≤4096)(hc:∀ s∈L,s.length=c):AF Tryz.prog v0t [.p (.sl 1 (z2 L))] [] (v8 (bl true) []):=by
 refine AF.mono (R:=fun r H'=>∃ z,z=true∧r=bl z∧H'=[]) ?_ (by rintro r H' ⟨z,rfl,rfl,rfl⟩;exact⟨rfl,rfl⟩)
 have hcl:=u5 L
 have ws:=q2d ((z2 L).length:Nat) (by omega) (by omega)
 have h0:=k0x (show 0<L.length by omega)
 have hc0:=hc _ (k1x (show 0<L.length by omega))
 generalize L[0]=s0 at h0 hc0
 have hx0:(z2 L)[(0:Int).toNat]?=some [bP s0]:=Q0 h0
 have hb0:=w6 s0
 refine v6 hT v0u rfl rfl v0v rfl ?_
 refine q8 hT ?_
 refine z7 ⟨⟨37,[(0,.p (.sl 1 (z2 L)))]⟩,[]⟩ True (q8 hT ?_) (fun _=>?_)
 ·refine x7 (w7 ws _ rfl rfl) ?_
  refine⟨by decide,w9 hx0 ?_⟩
  refine y4 (fun h=>?_) (fun h=>?_)
  ·have h:=k0q (show decide ((((bx s0).length:Nat):Int)<1)=true from h)
   omega
  refine⟨by decide,w9 hx0 ?_⟩
  refine z4 (y4 (fun h=>?_) (fun h=>?_))
  ·have h:=k0q (show decide ((((bx s0).length:Nat):Int) > 4096)=true from h)
   omega
  exact z5 ⟨q7 [] [0] rfl,trivial⟩
 refine z7 ⟨⟨37,[]⟩,[]⟩ True (q8 hT ?_) (fun _=>?_)
 ·refine z3 ?_
  refine y7 (fun n s=>∃ (k:Nat) (j:Int),n+k=L.length∧j=k∧s=⟨⟨37,[(0,.p (.sl 1 (z2 L))),(23,.p (.sl 1 (z2 L))),(24,i64 (z2 L).length),(25,i64 j)]⟩,[]⟩) L.length ⟨⟨37,_⟩,_⟩ (q7 [] [0,23,24,25] rfl) ⟨0,0,rfl,rfl,rfl⟩ ?_
  rintro n s ⟨k,j,hnk,hj,rfl⟩
  refine q8 hT ?_
  refine z8 (z4 (y4 (fun h=>?_) (fun h=>?_)))
  ·have h:=k0q (show decide (j<(((z2 L).length:Nat):Int))=true from h)
   have hk:k<L.length:=by omega
   refine z5 ?_
   have hx:=k0x hk
   have hcx:=hc _ (k1x hk)
   generalize L[k]=s at hx hcx
   have hxp:(z2 L)[j.toNat]?=some [bP s]:=by rw[hj,k0v];exact Q0 hx
   have hbs:=w6 s
   refine z7 ⟨⟨37,[(0,.p (.sl 1 (z2 L))),(23,.p (.sl 1 (z2 L))),(24,i64 (z2 L).length),(25,i64 j)]⟩,[]⟩ True (z3 (q8 hT ?_)) (fun _=>?_)
   ·refine⟨by omega,w9 hxp ?_⟩
    refine q8 hT ?_
    refine⟨by decide,w9 hx0 ?_⟩
    refine z4 (y4 (fun h=>?_) (fun h=>?_))
    ·have h:((((bx s).length:Nat):Int) != (((bx s0).length:Nat):Int))=true:=h
     rw[bne_iff_ne]at h
     omega
    exact z5 ⟨q7 [] [0,23,24,25] rfl,trivial⟩
   ·refine q9 hT ?_
    exact⟨n - 1,by omega,_,q7 [] [0,23,24,25] rfl,k+1,IntKind.i64.wrap (j+1),by omega,by rw[y8 _ (by omega) (by omega)];omega,rfl⟩
  ·refine x6 ?_
   exact⟨q7 [] [] rfl,trivial⟩
 refine q8 hT ?_
 refine y9 ?_
 exact z9 [] ⟨true,rfl,rfl,rfl⟩ rfl
def idA (i k:Nat):UInt8:=match (i:Int)==(k:Int) with|true=>1|false=>0
theorem z3u (i k:Nat):AF Tryz.prog q5n [i64 i,i64 k] [] (v8 (.p (u8 (idA i k))) []):=by
 refine AF.mono (R:=fun r H'=>∃ z,z=idA i k∧r=.p (u8 z)∧H'=[]) ?_ (by rintro r H' ⟨z,rfl,rfl,rfl⟩;exact⟨rfl,rfl⟩)
 refine v6 hT w0m rfl rfl w0n rfl ?_
 refine q8 hT ?_
 refine z8 (q8 hT ?_)
 refine z4 (y4 (fun h=>?_) (fun h=>?_))
 ·have h:((i:Int)==(k:Int))=true:=h
  refine q8 hT ?_
  refine y9 ?_
  exact z9 [] ⟨1,by unfold idA;rw[h],rfl,rfl⟩ rfl
 ·have h:((i:Int)==(k:Int))=false:=h
  refine z5 ?_
  refine q8 hT ?_
  refine y9 ?_
  exact z9 [] ⟨0,by unfold idA;rw[h],rfl,rfl⟩ rfl
theorem q3q (i k:Nat):AF Tryz.prog q0q [i64 i,i64 k] [] (v8 (.p (u8 0)) []):=by
 refine v6 hT x9w rfl rfl x9x rfl ?_
 refine q8 hT ?_
 refine q8 hT ?_
 refine y9 ?_
 exact z9 [] ⟨rfl,rfl⟩ rfl
def q3x (cols i k:Nat):UInt8:=Gf.inv (UInt8.ofNat (cols+i) ^^^ UInt8.ofNat k)
theorem z0n (cols i k:Nat)(hk:k<cols)(hc:cols+i<256):AF Tryz.prog q4m [i64 i,i64 k,.p (.box [.box fP]),.p (.box [.raw (.int .i64 cols)])] [] (v8 (.p (u8 (q3x cols i k))) []):=by
 have hne:UInt8.ofNat (cols+i) ^^^ UInt8.ofNat k≠0:=by
  intro h
  have h2:UInt8.ofNat (cols+i)=UInt8.ofNat k:=by
   have:=congrArg (· ^^^ UInt8.ofNat k) h
   simp only[UInt8.xor_assoc,UInt8.xor_self,UInt8.xor_zero,UInt8.zero_xor]at this
   exact this
  have h3:=congrArg UInt8.toNat h2
  rw[UInt8.toNat_ofNat',UInt8.toNat_ofNat']at h3
  omega
 have wa:=w6m q2s (UInt8.ofNat (cols+i)) (UInt8.ofNat k)
 have wi:=y7a _ hne
 have ha:(.p (.raw (.int .u8 (IntKind.u8.wrap (IntKind.i64.wrap ((cols:Int)+(i:Int)))))):AV)=.p (u8 (UInt8.ofNat (cols+i))):=by
  rw[y8 _ (by omega) (by omega),show (cols:Int)+(i:Int)=((cols+i:Nat):Int) by omega,q0t]
 have hb:(.p (.raw (.int .u8 (IntKind.u8.wrap (k:Int)))):AV)=.p (u8 (UInt8.ofNat k)):=by rw[q0t]
 rw[← ha,← hb]at wa
 have hm:Gf.inv (UInt8.ofNat (cols+i) ^^^ UInt8.ofNat k)=q3x cols i k:=rfl
 rw[hm]at wi
 generalize q3x cols i k=m at wi ⊢
 generalize UInt8.ofNat (cols+i) ^^^ UInt8.ofNat k=v at wa wi
 unfold q2s at wa wi
 generalize fP=F at wa wi ⊢
 refine v6 hT y5q rfl rfl y5r rfl ?_
 refine q8 hT ?_
 refine z7 ⟨⟨23,[(7,.p (u8 m))]⟩,[]⟩ True ?_ (fun _=>?_)
 ·refine v7 [] [] hT y5 (by rfl) ?_
  refine⟨_,w7 wa _ rfl rfl,?_⟩
  refine⟨_,w7 wi _ rfl rfl,?_⟩
  exact⟨q7 [] [7] rfl,trivial⟩
 refine q8 hT ?_
 refine y9 ?_
 exact z9 [] ⟨rfl,rfl⟩ rfl
theorem y7b {f:FuncId}{args:List AV}{M:Nat→z6}{n:Nat}{e:Int}(hM:∀ i,i<1→(M i).length=n)(h:AF Tryz.prog f args [] (v8 (.tup [.msl 0 1 0 1,i64 e]) [.cells z0 [.msl 1 1 0 n],.row z1 1 (bx (M 0))])):AF Tryz.prog f args [] (v8 (.tup [.msl 0 1 0 1,i64 e]) [.row z0 1 (z2 [M 0])]):=by
 refine z3c h ?_
 rintro _ _ ⟨rfl,rfl⟩
 refine⟨_,_,?_,rfl,rfl⟩
 refine Wk.trans (X2 1 0 0 n rfl rfl rfl (by rw[w6,hM 0 (by decide)])) ?_
 refine Wk.trans (U3 0 [bP (M 0)] rfl rfl (show 1≤140737488355328 by decide)) ?_
 exact q7 [0] [0] rfl
theorem x1u {f:FuncId}{args:List AV}{M:Nat→z6}{n:Nat}{e:Int}(hM:∀ i,i<1→(M i).length=n)(h:AF Tryz.prog f args [] (v8 (.tup [.msl 0 1 0 1,i64 e]) [.cells z0 [.msl 1 1 0 n],.row z1 1 (bx (M 0))])):AF Tryz.prog f args [] (v8 (.tup [.p (.sl 1 (z2 [M 0])),i64 e]) []):=
 y3c (t:=z0) (sz:=1) (n:=1) (y7b hM h) rfl rfl
theorem y7c {f:FuncId}{args:List AV}{M:Nat→z6}{n:Nat}{e:Int}(hM:∀ i,i<2→(M i).length=n)(h:AF Tryz.prog f args [] (v8 (.tup [.msl 0 1 0 2,i64 e]) [.cells z0 [.msl 1 1 0 n,.msl 2 1 0 n],.row z1 1 (bx (M 0)),.row z1 1 (bx (M 1))])):AF Tryz.prog f args [] (v8 (.tup [.msl 0 1 0 2,i64 e]) [.row z0 1 (z2 [M 0,M 1])]):=by
 refine z3c h ?_
 rintro _ _ ⟨rfl,rfl⟩
 refine⟨_,_,?_,rfl,rfl⟩
 refine Wk.trans (X2 1 0 0 n rfl rfl rfl (by rw[w6,hM 0 (by decide)])) ?_
 refine Wk.trans (X2 2 0 1 n rfl rfl rfl (by rw[w6,hM 1 (by decide)])) ?_
 refine Wk.trans (U3 0 [bP (M 0),bP (M 1)] rfl rfl (show 2≤140737488355328 by decide)) ?_
 exact q7 [0] [0] rfl
theorem x1v {f:FuncId}{args:List AV}{M:Nat→z6}{n:Nat}{e:Int}(hM:∀ i,i<2→(M i).length=n)(h:AF Tryz.prog f args [] (v8 (.tup [.msl 0 1 0 2,i64 e]) [.cells z0 [.msl 1 1 0 n,.msl 2 1 0 n],.row z1 1 (bx (M 0)),.row z1 1 (bx (M 1))])):AF Tryz.prog f args [] (v8 (.tup [.p (.sl 1 (z2 [M 0,M 1])),i64 e]) []):=
 y3c (t:=z0) (sz:=1) (n:=2) (y7c hM h) rfl rfl
theorem y7d {f:FuncId}{args:List AV}{M:Nat→z6}{n:Nat}{e:Int}(hM:∀ i,i<3→(M i).length=n)(h:AF Tryz.prog f args [] (v8 (.tup [.msl 0 1 0 3,i64 e]) [.cells z0 [.msl 1 1 0 n,.msl 2 1 0 n,.msl 3 1 0 n],.row z1 1 (bx (M 0)),.row z1 1 (bx (M 1)),.row z1 1 (bx (M 2))])):AF Tryz.prog f args [] (v8 (.tup [.msl 0 1 0 3,i64 e]) [.row z0 1 (z2 [M 0,M 1,M 2])]):=by
 refine z3c h ?_
 rintro _ _ ⟨rfl,rfl⟩
 refine⟨_,_,?_,rfl,rfl⟩
 refine Wk.trans (X2 1 0 0 n rfl rfl rfl (by rw[w6,hM 0 (by decide)])) ?_
 refine Wk.trans (X2 2 0 1 n rfl rfl rfl (by rw[w6,hM 1 (by decide)])) ?_
 refine Wk.trans (X2 3 0 2 n rfl rfl rfl (by rw[w6,hM 2 (by decide)])) ?_
 refine Wk.trans (U3 0 [bP (M 0),bP (M 1),bP (M 2)] rfl rfl (show 3≤140737488355328 by decide)) ?_
 exact q7 [0] [0] rfl
theorem x1w {f:FuncId}{args:List AV}{M:Nat→z6}{n:Nat}{e:Int}(hM:∀ i,i<3→(M i).length=n)(h:AF Tryz.prog f args [] (v8 (.tup [.msl 0 1 0 3,i64 e]) [.cells z0 [.msl 1 1 0 n,.msl 2 1 0 n,.msl 3 1 0 n],.row z1 1 (bx (M 0)),.row z1 1 (bx (M 1)),.row z1 1 (bx (M 2))])):AF Tryz.prog f args [] (v8 (.tup [.p (.sl 1 (z2 [M 0,M 1,M 2])),i64 e]) []):=
 y3c (t:=z0) (sz:=1) (n:=3) (y7d hM h) rfl rfl
theorem y7e {f:FuncId}{args:List AV}{M:Nat→z6}{n:Nat}{e:Int}(hM:∀ i,i<4→(M i).length=n)(h:AF Tryz.prog f args [] (v8 (.tup [.msl 0 1 0 4,i64 e]) [.cells z0 [.msl 1 1 0 n,.msl 2 1 0 n,.msl 3 1 0 n,.msl 4 1 0 n],.row z1 1 (bx (M 0)),.row z1 1 (bx (M 1)),.row z1 1 (bx (M 2)),.row z1 1 (bx (M 3))])):AF Tryz.prog f args [] (v8 (.tup [.msl 0 1 0 4,i64 e]) [.row z0 1 (z2 [M 0,M 1,M 2,M 3])]):=by
 refine z3c h ?_
 rintro _ _ ⟨rfl,rfl⟩
 refine⟨_,_,?_,rfl,rfl⟩
 refine Wk.trans (X2 1 0 0 n rfl rfl rfl (by rw[w6,hM 0 (by decide)])) ?_
 refine Wk.trans (X2 2 0 1 n rfl rfl rfl (by rw[w6,hM 1 (by decide)])) ?_
 refine Wk.trans (X2 3 0 2 n rfl rfl rfl (by rw[w6,hM 2 (by decide)])) ?_
 refine Wk.trans (X2 4 0 3 n rfl rfl rfl (by rw[w6,hM 3 (by decide)])) ?_
 refine Wk.trans (U3 0 [bP (M 0),bP (M 1),bP (M 2),bP (M 3)] rfl rfl (show 4≤140737488355328 by decide)) ?_
 exact q7 [0] [0] rfl
theorem v1t {f:FuncId}{args:List AV}{M:Nat→z6}{n:Nat}{e:Int}(hM:∀ i,i<4→(M i).length=n)(h:AF Tryz.prog f args [] (v8 (.tup [.msl 0 1 0 4,i64 e]) [.cells z0 [.msl 1 1 0 n,.msl 2 1 0 n,.msl 3 1 0 n,.msl 4 1 0 n],.row z1 1 (bx (M 0)),.row z1 1 (bx (M 1)),.row z1 1 (bx (M 2)),.row z1 1 (bx (M 3))])):AF Tryz.prog f args [] (v8 (.tup [.p (.sl 1 (z2 [M 0,M 1,M 2,M 3])),i64 e]) []):=
 y3c (t:=z0) (sz:=1) (n:=4) (y7e hM h) rfl rfl
theorem w1v:AF Tryz.prog q2m [i64 1] [] (v8 (.tup [.msl 0 1 0 1,i64 0]) [.cells z0 [.msl 1 1 0 1],.row z1 1 (bx (v9 idA 1 0))]):=by
 have ws:=q2d 1 (by decide) (by decide)
 have wf:=z2e q5n 1 (by decide) idA (fun i k _ _=>z3u i k)
 refine v6 hT z3j rfl rfl z3k rfl ?_
 refine q8 hT ?_
 refine z8 (q8 hT ?_)
 refine x7 (w7 ws _ rfl rfl) ?_
 refine z4 ?_
 refine z5 ?_
 refine q8 hT ?_
 refine x7 wf ?_
 refine y9 ?_
 exact z9 [0,1] ⟨rfl,rfl⟩ rfl
theorem v1u:AF Tryz.prog q2m [i64 1] [] (v8 (.tup [.msl 0 1 0 1,i64 0]) [.row z0 1 (z2 [v9 idA 1 0])]):=y7b (M:=v9 idA 1) (fun i _=>by unfold v9;rw[k1y,k3q]) w1v
theorem w1w:AF Tryz.prog q2m [i64 2] [] (v8 (.tup [.msl 0 1 0 2,i64 0]) [.cells z0 [.msl 1 1 0 2,.msl 2 1 0 2],.row z1 1 (bx (v9 idA 2 0)),.row z1 1 (bx (v9 idA 2 1))]):=by
 have ws:=q2d 2 (by decide) (by decide)
 have wf:=z2f q5n 2 (by decide) idA (fun i k _ _=>z3u i k)
 refine v6 hT z3j rfl rfl z3k rfl ?_
 refine q8 hT ?_
 refine z8 (q8 hT ?_)
 refine x7 (w7 ws _ rfl rfl) ?_
 refine z4 ?_
 refine z5 ?_
 refine q8 hT ?_
 refine x7 wf ?_
 refine y9 ?_
 exact z9 [0,1,2] ⟨rfl,rfl⟩ rfl
theorem v1v:AF Tryz.prog q2m [i64 2] [] (v8 (.tup [.msl 0 1 0 2,i64 0]) [.row z0 1 (z2 [v9 idA 2 0,v9 idA 2 1])]):=y7c (M:=v9 idA 2) (fun i _=>by unfold v9;rw[k1y,k3q]) w1w
theorem w1x:AF Tryz.prog q2m [i64 3] [] (v8 (.tup [.msl 0 1 0 3,i64 0]) [.cells z0 [.msl 1 1 0 3,.msl 2 1 0 3,.msl 3 1 0 3],.row z1 1 (bx (v9 idA 3 0)),.row z1 1 (bx (v9 idA 3 1)),.row z1 1 (bx (v9 idA 3 2))]):=by
 have ws:=q2d 3 (by decide) (by decide)
 have wf:=z2g q5n 3 (by decide) idA (fun i k _ _=>z3u i k)
 refine v6 hT z3j rfl rfl z3k rfl ?_
 refine q8 hT ?_
 refine z8 (q8 hT ?_)
 refine x7 (w7 ws _ rfl rfl) ?_
 refine z4 ?_
 refine z5 ?_
 refine q8 hT ?_
 refine x7 wf ?_
 refine y9 ?_
 exact z9 [0,1,2,3] ⟨rfl,rfl⟩ rfl
theorem v1w:AF Tryz.prog q2m [i64 3] [] (v8 (.tup [.msl 0 1 0 3,i64 0]) [.row z0 1 (z2 [v9 idA 3 0,v9 idA 3 1,v9 idA 3 2])]):=y7d (M:=v9 idA 3) (fun i _=>by unfold v9;rw[k1y,k3q]) w1x
theorem w1y:AF Tryz.prog q2m [i64 4] [] (v8 (.tup [.msl 0 1 0 4,i64 0]) [.cells z0 [.msl 1 1 0 4,.msl 2 1 0 4,.msl 3 1 0 4,.msl 4 1 0 4],.row z1 1 (bx (v9 idA 4 0)),.row z1 1 (bx (v9 idA 4 1)),.row z1 1 (bx (v9 idA 4 2)),.row z1 1 (bx (v9 idA 4 3))]):=by
 have ws:=q2d 4 (by decide) (by decide)
 have wf:=z2h q5n 4 (by decide) idA (fun i k _ _=>z3u i k)
 refine v6 hT z3j rfl rfl z3k rfl ?_
 refine q8 hT ?_
 refine z8 (q8 hT ?_)
 refine x7 (w7 ws _ rfl rfl) ?_
 refine z4 ?_
 refine z5 ?_
 refine q8 hT ?_
 refine x7 wf ?_
 refine y9 ?_
 exact z9 [0,1,2,3,4] ⟨rfl,rfl⟩ rfl
theorem v1x:AF Tryz.prog q2m [i64 4] [] (v8 (.tup [.msl 0 1 0 4,i64 0]) [.row z0 1 (z2 [v9 idA 4 0,v9 idA 4 1,v9 idA 4 2,v9 idA 4 3])]):=y7e (M:=v9 idA 4) (fun i _=>by unfold v9;rw[k1y,k3q]) w1y
theorem w1z (c:Nat)(c1:1≤c)(c2:c≤64):AF Tryz.prog q4k [i64 1,i64 c] [] (v8 (.tup [.p (.sl 1 (z2 [v9 (q3x c) c 0])),i64 0]) []):=by
 refine x1u (M:=v9 (q3x c) c) (n:=c) (fun i _=>by unfold v9;rw[k1y,k3q]) ?_
 have ws:=q2d 1 (by decide) (by decide)
 have wc:=q2d c (by omega) (by omega)
 have wn:=q3h
 have wf:=x5z q4m (.box [.box fP]) (.box [.raw (.int .i64 c)]) c (by omega) (q3x c) (fun i k _ hk=>z0n c i k hk (by omega))
 generalize v9 (q3x c) c=M at wf ⊢
 unfold q2s at wn
 generalize fP=F at wn wf
 refine v6 hT z0g rfl rfl z0h rfl ?_
 refine q8 hT ?_
 refine u6 (Q4 0 [.raw (.int .i64 c)] rfl rfl) ?_
 refine z7 ⟨⟨20,[(0,i64 1),(3,.p (.box [.raw (.int .i64 c)]))]⟩,[]⟩ True (q8 hT ?_) (fun _=>?_)
 ·refine x7 (w7 ws _ rfl rfl) ?_
  refine x7 (w7 wc _ rfl rfl) ?_
  refine z4 ?_
  exact z5 ⟨q7 [] [0,3] rfl,trivial⟩
 refine z7 ⟨⟨20,[(0,i64 1),(3,.p (.box [.raw (.int .i64 c)])),(6,.p (.box [.box F]))]⟩,[]⟩ True (q9 hT ?_) (fun _=>?_)
 ·refine x7 (w7 wn _ rfl rfl) ?_
  exact⟨Wk.trans (Q4 0 [.box F] rfl rfl) (q7 [] [0,3,6] rfl),trivial⟩
 refine q8 hT ?_
 refine x7 wf ?_
 refine y9 ?_
 exact z9 [0,1] ⟨rfl,rfl⟩ rfl
theorem w2a (c:Nat)(c1:1≤c)(c2:c≤64):AF Tryz.prog q4k [i64 2,i64 c] [] (v8 (.tup [.p (.sl 1 (z2 [v9 (q3x c) c 0,v9 (q3x c) c 1])),i64 0]) []):=by
 refine x1v (M:=v9 (q3x c) c) (n:=c) (fun i _=>by unfold v9;rw[k1y,k3q]) ?_
 have ws:=q2d 2 (by decide) (by decide)
 have wc:=q2d c (by omega) (by omega)
 have wn:=q3h
 have wf:=x6a q4m (.box [.box fP]) (.box [.raw (.int .i64 c)]) c (by omega) (q3x c) (fun i k _ hk=>z0n c i k hk (by omega))
 generalize v9 (q3x c) c=M at wf ⊢
 unfold q2s at wn
 generalize fP=F at wn wf
 refine v6 hT z0g rfl rfl z0h rfl ?_
 refine q8 hT ?_
 refine u6 (Q4 0 [.raw (.int .i64 c)] rfl rfl) ?_
 refine z7 ⟨⟨20,[(0,i64 2),(3,.p (.box [.raw (.int .i64 c)]))]⟩,[]⟩ True (q8 hT ?_) (fun _=>?_)
 ·refine x7 (w7 ws _ rfl rfl) ?_
  refine x7 (w7 wc _ rfl rfl) ?_
  refine z4 ?_
  exact z5 ⟨q7 [] [0,3] rfl,trivial⟩
 refine z7 ⟨⟨20,[(0,i64 2),(3,.p (.box [.raw (.int .i64 c)])),(6,.p (.box [.box F]))]⟩,[]⟩ True (q9 hT ?_) (fun _=>?_)
 ·refine x7 (w7 wn _ rfl rfl) ?_
  exact⟨Wk.trans (Q4 0 [.box F] rfl rfl) (q7 [] [0,3,6] rfl),trivial⟩
 refine q8 hT ?_
 refine x7 wf ?_
 refine y9 ?_
 exact z9 [0,1,2] ⟨rfl,rfl⟩ rfl
theorem w2b (c:Nat)(c1:1≤c)(c2:c≤64):AF Tryz.prog q4k [i64 3,i64 c] [] (v8 (.tup [.p (.sl 1 (z2 [v9 (q3x c) c 0,v9 (q3x c) c 1,v9 (q3x c) c 2])),i64 0]) []):=by
 refine x1w (M:=v9 (q3x c) c) (n:=c) (fun i _=>by unfold v9;rw[k1y,k3q]) ?_
 have ws:=q2d 3 (by decide) (by decide)
 have wc:=q2d c (by omega) (by omega)
 have wn:=q3h
 have wf:=x6b q4m (.box [.box fP]) (.box [.raw (.int .i64 c)]) c (by omega) (q3x c) (fun i k _ hk=>z0n c i k hk (by omega))
 generalize v9 (q3x c) c=M at wf ⊢
 unfold q2s at wn
 generalize fP=F at wn wf
 refine v6 hT z0g rfl rfl z0h rfl ?_
 refine q8 hT ?_
 refine u6 (Q4 0 [.raw (.int .i64 c)] rfl rfl) ?_
 refine z7 ⟨⟨20,[(0,i64 3),(3,.p (.box [.raw (.int .i64 c)]))]⟩,[]⟩ True (q8 hT ?_) (fun _=>?_)
 ·refine x7 (w7 ws _ rfl rfl) ?_
  refine x7 (w7 wc _ rfl rfl) ?_
  refine z4 ?_
  exact z5 ⟨q7 [] [0,3] rfl,trivial⟩
 refine z7 ⟨⟨20,[(0,i64 3),(3,.p (.box [.raw (.int .i64 c)])),(6,.p (.box [.box F]))]⟩,[]⟩ True (q9 hT ?_) (fun _=>?_)
 ·refine x7 (w7 wn _ rfl rfl) ?_
  exact⟨Wk.trans (Q4 0 [.box F] rfl rfl) (q7 [] [0,3,6] rfl),trivial⟩
 refine q8 hT ?_
 refine x7 wf ?_
 refine y9 ?_
 exact z9 [0,1,2,3] ⟨rfl,rfl⟩ rfl
def x9 (a:z6)(B:List z6)(c:Nat):Nat→z6
 |0=>List.replicate c 0
 |k+1=>J4 (x9 a B c k) (B.getD k []) (a.getD k 0)
theorem Q8 {B:List z6}(a:z6){c:Nat}(hB:∀ s∈B,s.length=c):∀ {k:Nat},k≤B.length→(x9 a B c k).length=c
 |0,_=>k2q
 |k+1,h=>by
  have ih:=Q8 (B:=B) a hB (k:=k) (by omega)
  have hk:=k0x (show k<B.length by omega)
  have hl:=hB _ (k1x (show k<B.length by omega))
  rw[x9,q1t _ (by rw[ih,k0w,hk];exact hl.symm),ih]
theorem W3 {a:z6}{B:List z6}(c:Nat){k:Nat}{x:UInt8}{b:z6}(ha:a[k]?=some x)(hb:B[k]?=some b):x9 a B c (k+1)=J4 (x9 a B c k) b x:=by
 rw[x9,k0w,k0w,ha,hb];rfl
theorem q3r (a:z6)(B:List z6)(c i:Nat):v9 (fun _ _=>0) c i=x9 a B c 0:=by
 unfold v9 x9
 rw[List.map_const',k3q]
theorem v1y (a0:z6)(B:List z6)(q c:Nat)(q1:1≤q)(q2:q≤64)(c1:1≤c)(c2:c≤4096)(hA:∀ s∈([a0]:List z6),s.length=q)(hB:B.length=q)(hBc:∀ s∈B,s.length=c) :
 AF Tryz.prog J6 [.p (.sl 1 (z2 [a0])),.p (.sl 1 (z2 B))] [] (v8 (.tup [.msl 0 1 0 1,i64 0]) [.cells z0 [.msl 1 1 0 c],.row z1 1 (bx (x9 a0 B c q))]):=by
 have wA:=J2 [a0] q (show 1≤1 by decide) (show 1≤64 by decide) q1 (by omega) hA
 have wB:=J2 B c (by omega) (by omega) c1 c2 hBc
 have wn:=q3h
 have hcl:=u5 B
 have h0:=k0x (show 0<B.length by omega)
 have hc0:=hBc _ (k1x (show 0<B.length by omega))
 generalize B[0]=b0 at h0 hc0
 have hx0:(z2 B)[(0:Int).toNat]?=some [bP b0]:=Q0 h0
 have hb0:=w6 b0
 have wf:=z2e q0q (bx b0).length (by omega) (fun _ _=>0) (fun i k _ _=>q3q i k)
 have ha0:a0.length=q:=hA a0 (by simp)
 have hx10:=w6 a0
 have wadd:=fun(to row:z6) (x:UInt8) (ht:to.length=c) (hr:row.length=c)=>q5u to row x (by omega) (by omega)
 unfold q2s at wn wadd
 generalize fP=F at wn wadd
 refine v6 hT q3k rfl rfl q3m rfl ?_
 refine q8 hT ?_
 refine z7 ⟨⟨65,[(0,.p (.sl 1 (z2 [a0]))),(1,.p (.sl 1 (z2 B)))]⟩,[]⟩ True (q8 hT ?_) (fun _=>?_)
 ·refine x7 (w7 wA _ rfl rfl) ?_
  refine x7 (w7 wB _ rfl rfl) ?_
  refine⟨by decide,w9 rfl ?_⟩
  refine z4 (y4 (fun h=>?_) (fun h=>?_))
  ·have h:((((bx a0).length:Nat):Int) != (((z2 B).length:Nat):Int))=true:=h
   rw[bne_iff_ne]at h
   omega
  exact z5 ⟨q7 [] [0,1] rfl,trivial⟩
 refine q8 hT ?_
 refine x7 (w7 wn _ rfl rfl) ?_
 refine y6 (fun st=>∃ c',c'=c∧st=⟨⟨65,[(0,.p (.sl 1 (z2 [a0]))),(1,.p (.sl 1 (z2 B))),(6,.p (.box F)),(7,.msl 0 1 0 1)]⟩,[.cells z0 [.msl 1 1 0 c'],.row z1 1 (bx (v9 (fun _ _=>0) c' 0))]⟩) (q9 hT ?_) ?_
 ·refine⟨by decide,w9 hx0 ?_⟩
  refine x7 wf ?_
  exact⟨_,q7 [0,1] [0,1,6,7] rfl,_,hb0.trans hc0,rfl⟩
 rintro _ ⟨c,rfl,rfl⟩
 clear wf
 refine z7 ⟨⟨65,[(7,.msl 0 1 0 1)]⟩,[.cells z0 [.msl 1 1 0 c],.row z1 1 (bx (x9 a0 B c q))]⟩ True (q8 hT ?_) (fun _=>?_)
 ·refine z3 ?_
  refine y7 (fun n s=>(n=1∧s=⟨⟨65,[(0,.p (.sl 1 (z2 [a0]))),(1,.p (.sl 1 (z2 B))),(6,.p (.box F)),(7,.msl 0 1 0 1),(37,.p (.sl 1 (z2 [a0]))),(38,i64 1),(39,i64 0)]⟩,[.cells z0 [.msl 1 1 0 c],.row z1 1 (bx (x9 a0 B c 0))]⟩)∨(n=0∧s=⟨⟨65,[(0,.p (.sl 1 (z2 [a0]))),(1,.p (.sl 1 (z2 B))),(6,.p (.box F)),(7,.msl 0 1 0 1),(37,.p (.sl 1 (z2 [a0]))),(38,i64 1),(39,i64 1)]⟩,[.cells z0 [.msl 1 1 0 c],.row z1 1 (bx (x9 a0 B c q))]⟩)) 1 ⟨⟨65,_⟩,_⟩ (q7 [0,1] [0,1,6,7,37,38,39] rfl) (.inl ⟨rfl,by rw[q3r a0 B c 0];rfl⟩) ?_
  rintro n s (⟨rfl,rfl⟩|⟨rfl,rfl⟩)
  ·refine q8 hT ?_
   refine z8 (z4 ?_)
   refine z5 ?_
   refine z7 ⟨⟨65,[(0,.p (.sl 1 (z2 [a0]))),(1,.p (.sl 1 (z2 B))),(6,.p (.box F)),(7,.msl 0 1 0 1),(37,.p (.sl 1 (z2 [a0]))),(38,i64 1),(8,i64 0),(39,i64 0)]⟩,[.cells z0 [.msl 1 1 0 c],.row z1 1 (bx (x9 a0 B c q))]⟩ True (z3 ?_) (fun _=>?_)
   ·refine q8 hT ?_
    refine⟨by decide,w9 rfl ?_⟩
    refine q8 hT ?_
    refine z3 ?_
    refine y7 (fun n s=>∃ (k:Nat) (j:Int),n+k=q∧j=k∧s=⟨⟨65,[(0,.p (.sl 1 (z2 [a0]))),(1,.p (.sl 1 (z2 B))),(6,.p (.box F)),(7,.msl 0 1 0 1),(37,.p (.sl 1 (z2 [a0]))),(38,i64 1),(8,i64 0),(39,i64 0),(44,bA a0),(45,i64 (bx a0).length),(46,i64 j)]⟩,[.cells z0 [.msl 1 1 0 c],.row z1 1 (bx (x9 a0 B c k))]⟩) q ⟨⟨65,_⟩,_⟩ (q7 [0,1] [0,1,6,7,37,38,8,39,44,45,46] rfl) ⟨0,0,by omega,rfl,rfl⟩ ?_
    rintro n2 s ⟨k,j,hnk,hj,rfl⟩
    refine q8 hT ?_
    refine z8 (z4 (y4 (fun h=>?_) (fun h=>?_)))
    ·have h:=k0q (show decide (j<(((bx a0).length:Nat):Int))=true from h)
     have hk:k<a0.length:=by omega
     have hkB:k<B.length:=by omega
     refine z5 ?_
     have hxa:=k0x hk
     have hxb:=k0x hkB
     have hst:=W3 c hxa hxb
     have hlb:=hBc _ (k1x hkB)
     generalize a0[k]=x at hxa hst
     generalize B[k]=b at hxb hst hlb
     have hxp:(bx a0)[j.toNat]?=some [u8 x]:=by rw[hj,k0v];exact u7 hxa
     have hbp:(z2 B)[j.toNat]?=some [bP b]:=by rw[hj,k0v];exact Q0 hxb
     have hml:=Q8 (B:=B) a0 hBc (k:=k) (by omega)
     have w:=wadd (x9 a0 B c k) b x hml hlb
     rw[hml,← hst]at w
     refine z7 ⟨⟨65,[(0,.p (.sl 1 (z2 [a0]))),(1,.p (.sl 1 (z2 B))),(6,.p (.box F)),(7,.msl 0 1 0 1),(37,.p (.sl 1 (z2 [a0]))),(38,i64 1),(8,i64 0),(39,i64 0),(44,bA a0),(45,i64 (bx a0).length),(46,i64 j)]⟩,[.cells z0 [.msl 1 1 0 c],.row z1 1 (bx (x9 a0 B c (k+1)))]⟩ True (z3 (q8 hT ?_)) (fun _=>?_)
     ·refine⟨by omega,w9 hxp ?_⟩
      refine v7 [10] [] hT y5 (by rfl) ?_
      refine⟨by decide,?_⟩
      refine⟨by omega,w9 hbp ?_⟩
      refine⟨_,_,Q7 [1] w rfl rfl rfl,?_⟩
      repeat first|refine⟨rfl,?_⟩|refine⟨⟨by decide,rfl⟩,?_⟩|refine⟨⟨by omega,w9 hbp rfl⟩,?_⟩
      exact⟨q7 [0,1] [0,1,6,7,37,38,8,39,44,45,46] rfl,trivial⟩
     ·refine q9 hT ?_
      exact⟨n2 - 1,by omega,_,q7 [0,1] [0,1,6,7,37,38,8,39,44,45,46] rfl,k+1,IntKind.i64.wrap (j+1),by omega,by rw[y8 _ (by omega) (by omega)];omega,rfl⟩
    ·have h:=k0z (show decide (j<(((bx a0).length:Nat):Int))=false from h)
     rw[show k=q by omega]
     refine x6 ?_
     exact⟨q7 [0,1] [0,1,6,7,37,38,8,39] rfl,trivial⟩
   ·refine q9 hT ?_
    exact⟨0,by decide,_,q7 [0,1] [0,1,6,7,37,38,39] rfl,(.inr ⟨rfl,rfl⟩)⟩
  ·refine q8 hT ?_
   refine z8 (z4 ?_)
   refine x6 ?_
   exact⟨q7 [0,1] [7] rfl,trivial⟩
 refine q8 hT ?_
 refine y9 ?_
 exact z9 [0,1] ⟨rfl,rfl⟩ rfl
theorem v1z (a0:z6)(B:List z6)(q c:Nat)(q1:1≤q)(q2:q≤64)(c1:1≤c)(c2:c≤4096)(hA:∀ s∈([a0]:List z6),s.length=q)(hB:B.length=q)(hBc:∀ s∈B,s.length=c) :
 AF Tryz.prog J6 [.p (.sl 1 (z2 [a0])),.p (.sl 1 (z2 B))] [] (v8 (.tup [.msl 0 1 0 1,i64 0]) [.row z0 1 (z2 [x9 a0 B c q])]):=by
 refine y7b (M:=fun i=>([x9 a0 B c q]:List z6).getD i []) (n:=c) (fun i hi=>?_) (v1y a0 B q c q1 q2 c1 c2 hA hB hBc)
 have:i=0:=by omega
 rcases this with rfl <;> exact Q8 _ hBc (by omega)
theorem v2a (a0 a1:z6)(B:List z6)(q c:Nat)(q1:1≤q)(q2:q≤64)(c1:1≤c)(c2:c≤4096)(hA:∀ s∈([a0,a1]:List z6),s.length=q)(hB:B.length=q)(hBc:∀ s∈B,s.length=c) :
 AF Tryz.prog J6 [.p (.sl 1 (z2 [a0,a1])),.p (.sl 1 (z2 B))] [] (v8 (.tup [.msl 0 1 0 2,i64 0]) [.cells z0 [.msl 1 1 0 c,.msl 2 1 0 c],.row z1 1 (bx (x9 a0 B c q)),.row z1 1 (bx (x9 a1 B c q))]):=by
 have wA:=J2 [a0,a1] q (show 1≤2 by decide) (show 2≤64 by decide) q1 (by omega) hA
 have wB:=J2 B c (by omega) (by omega) c1 c2 hBc
 have wn:=q3h
 have hcl:=u5 B
 have h0:=k0x (show 0<B.length by omega)
 have hc0:=hBc _ (k1x (show 0<B.length by omega))
 generalize B[0]=b0 at h0 hc0
 have hx0:(z2 B)[(0:Int).toNat]?=some [bP b0]:=Q0 h0
 have hb0:=w6 b0
 have wf:=z2f q0q (bx b0).length (by omega) (fun _ _=>0) (fun i k _ _=>q3q i k)
 have ha0:a0.length=q:=hA a0 (by simp)
 have hx10:=w6 a0
 have ha1:a1.length=q:=hA a1 (by simp)
 have hx11:=w6 a1
 have wadd:=fun(to row:z6) (x:UInt8) (ht:to.length=c) (hr:row.length=c)=>q5u to row x (by omega) (by omega)
 unfold q2s at wn wadd
 generalize fP=F at wn wadd
 refine v6 hT q3k rfl rfl q3m rfl ?_
 refine q8 hT ?_
 refine z7 ⟨⟨65,[(0,.p (.sl 1 (z2 [a0,a1]))),(1,.p (.sl 1 (z2 B)))]⟩,[]⟩ True (q8 hT ?_) (fun _=>?_)
 ·refine x7 (w7 wA _ rfl rfl) ?_
  refine x7 (w7 wB _ rfl rfl) ?_
  refine⟨by decide,w9 rfl ?_⟩
  refine z4 (y4 (fun h=>?_) (fun h=>?_))
  ·have h:((((bx a0).length:Nat):Int) != (((z2 B).length:Nat):Int))=true:=h
   rw[bne_iff_ne]at h
   omega
  exact z5 ⟨q7 [] [0,1] rfl,trivial⟩
 refine q8 hT ?_
 refine x7 (w7 wn _ rfl rfl) ?_
 refine y6 (fun st=>∃ c',c'=c∧st=⟨⟨65,[(0,.p (.sl 1 (z2 [a0,a1]))),(1,.p (.sl 1 (z2 B))),(6,.p (.box F)),(7,.msl 0 1 0 2)]⟩,[.cells z0 [.msl 1 1 0 c',.msl 2 1 0 c'],.row z1 1 (bx (v9 (fun _ _=>0) c' 0)),.row z1 1 (bx (v9 (fun _ _=>0) c' 1))]⟩) (q9 hT ?_) ?_
 ·refine⟨by decide,w9 hx0 ?_⟩
  refine x7 wf ?_
  exact⟨_,q7 [0,1,2] [0,1,6,7] rfl,_,hb0.trans hc0,rfl⟩
 rintro _ ⟨c,rfl,rfl⟩
 clear wf
 refine z7 ⟨⟨65,[(7,.msl 0 1 0 2)]⟩,[.cells z0 [.msl 1 1 0 c,.msl 2 1 0 c],.row z1 1 (bx (x9 a0 B c q)),.row z1 1 (bx (x9 a1 B c q))]⟩ True (q8 hT ?_) (fun _=>?_)
 ·refine z3 ?_
  refine y7 (fun n s=>(n=2∧s=⟨⟨65,[(0,.p (.sl 1 (z2 [a0,a1]))),(1,.p (.sl 1 (z2 B))),(6,.p (.box F)),(7,.msl 0 1 0 2),(37,.p (.sl 1 (z2 [a0,a1]))),(38,i64 2),(39,i64 0)]⟩,[.cells z0 [.msl 1 1 0 c,.msl 2 1 0 c],.row z1 1 (bx (x9 a0 B c 0)),.row z1 1 (bx (x9 a1 B c 0))]⟩)∨(n=1∧s=⟨⟨65,[(0,.p (.sl 1 (z2 [a0,a1]))),(1,.p (.sl 1 (z2 B))),(6,.p (.box F)),(7,.msl 0 1 0 2),(37,.p (.sl 1 (z2 [a0,a1]))),(38,i64 2),(39,i64 1)]⟩,[.cells z0 [.msl 1 1 0 c,.msl 2 1 0 c],.row z1 1 (bx (x9 a0 B c q)),.row z1 1 (bx (x9 a1 B c 0))]⟩)∨(n=0∧s=⟨⟨65,[(0,.p (.sl 1 (z2 [a0,a1]))),(1,.p (.sl 1 (z2 B))),(6,.p (.box F)),(7,.msl 0 1 0 2),(37,.p (.sl 1 (z2 [a0,a1]))),(38,i64 2),(39,i64 2)]⟩,[.cells z0 [.msl 1 1 0 c,.msl 2 1 0 c],.row z1 1 (bx (x9 a0 B c q)),.row z1 1 (bx (x9 a1 B c q))]⟩)) 2 ⟨⟨65,_⟩,_⟩ (q7 [0,1,2] [0,1,6,7,37,38,39] rfl) (.inl ⟨rfl,by rw[q3r a0 B c 0,q3r a1 B c 1];rfl⟩) ?_
  rintro n s (⟨rfl,rfl⟩|⟨rfl,rfl⟩|⟨rfl,rfl⟩)
  ·refine q8 hT ?_
   refine z8 (z4 ?_)
   refine z5 ?_
   refine z7 ⟨⟨65,[(0,.p (.sl 1 (z2 [a0,a1]))),(1,.p (.sl 1 (z2 B))),(6,.p (.box F)),(7,.msl 0 1 0 2),(37,.p (.sl 1 (z2 [a0,a1]))),(38,i64 2),(8,i64 0),(39,i64 0)]⟩,[.cells z0 [.msl 1 1 0 c,.msl 2 1 0 c],.row z1 1 (bx (x9 a0 B c q)),.row z1 1 (bx (x9 a1 B c 0))]⟩ True (z3 ?_) (fun _=>?_)
   ·refine q8 hT ?_
    refine⟨by decide,w9 rfl ?_⟩
    refine q8 hT ?_
    refine z3 ?_
    refine y7 (fun n s=>∃ (k:Nat) (j:Int),n+k=q∧j=k∧s=⟨⟨65,[(0,.p (.sl 1 (z2 [a0,a1]))),(1,.p (.sl 1 (z2 B))),(6,.p (.box F)),(7,.msl 0 1 0 2),(37,.p (.sl 1 (z2 [a0,a1]))),(38,i64 2),(8,i64 0),(39,i64 0),(44,bA a0),(45,i64 (bx a0).length),(46,i64 j)]⟩,[.cells z0 [.msl 1 1 0 c,.msl 2 1 0 c],.row z1 1 (bx (x9 a0 B c k)),.row z1 1 (bx (x9 a1 B c 0))]⟩) q ⟨⟨65,_⟩,_⟩ (q7 [0,1,2] [0,1,6,7,37,38,8,39,44,45,46] rfl) ⟨0,0,by omega,rfl,rfl⟩ ?_
    rintro n2 s ⟨k,j,hnk,hj,rfl⟩
    refine q8 hT ?_
    refine z8 (z4 (y4 (fun h=>?_) (fun h=>?_)))
    ·have h:=k0q (show decide (j<(((bx a0).length:Nat):Int))=true from h)
     have hk:k<a0.length:=by omega
     have hkB:k<B.length:=by omega
     refine z5 ?_
     have hxa:=k0x hk
     have hxb:=k0x hkB
     have hst:=W3 c hxa hxb
     have hlb:=hBc _ (k1x hkB)
     generalize a0[k]=x at hxa hst
     generalize B[k]=b at hxb hst hlb
     have hxp:(bx a0)[j.toNat]?=some [u8 x]:=by rw[hj,k0v];exact u7 hxa
     have hbp:(z2 B)[j.toNat]?=some [bP b]:=by rw[hj,k0v];exact Q0 hxb
     have hml:=Q8 (B:=B) a0 hBc (k:=k) (by omega)
     have w:=wadd (x9 a0 B c k) b x hml hlb
     rw[hml,← hst]at w
     refine z7 ⟨⟨65,[(0,.p (.sl 1 (z2 [a0,a1]))),(1,.p (.sl 1 (z2 B))),(6,.p (.box F)),(7,.msl 0 1 0 2),(37,.p (.sl 1 (z2 [a0,a1]))),(38,i64 2),(8,i64 0),(39,i64 0),(44,bA a0),(45,i64 (bx a0).length),(46,i64 j)]⟩,[.cells z0 [.msl 1 1 0 c,.msl 2 1 0 c],.row z1 1 (bx (x9 a0 B c (k+1))),.row z1 1 (bx (x9 a1 B c 0))]⟩ True (z3 (q8 hT ?_)) (fun _=>?_)
     ·refine⟨by omega,w9 hxp ?_⟩
      refine v7 [10] [] hT y5 (by rfl) ?_
      refine⟨by decide,?_⟩
      refine⟨by omega,w9 hbp ?_⟩
      refine⟨_,_,Q7 [1] w rfl rfl rfl,?_⟩
      repeat first|refine⟨rfl,?_⟩|refine⟨⟨by decide,rfl⟩,?_⟩|refine⟨⟨by omega,w9 hbp rfl⟩,?_⟩
      exact⟨q7 [0,1,2] [0,1,6,7,37,38,8,39,44,45,46] rfl,trivial⟩
     ·refine q9 hT ?_
      exact⟨n2 - 1,by omega,_,q7 [0,1,2] [0,1,6,7,37,38,8,39,44,45,46] rfl,k+1,IntKind.i64.wrap (j+1),by omega,by rw[y8 _ (by omega) (by omega)];omega,rfl⟩
    ·have h:=k0z (show decide (j<(((bx a0).length:Nat):Int))=false from h)
     rw[show k=q by omega]
     refine x6 ?_
     exact⟨q7 [0,1,2] [0,1,6,7,37,38,8,39] rfl,trivial⟩
   ·refine q9 hT ?_
    exact⟨1,by decide,_,q7 [0,1,2] [0,1,6,7,37,38,39] rfl,(.inr (.inl ⟨rfl,rfl⟩))⟩
  ·refine q8 hT ?_
   refine z8 (z4 ?_)
   refine z5 ?_
   refine z7 ⟨⟨65,[(0,.p (.sl 1 (z2 [a0,a1]))),(1,.p (.sl 1 (z2 B))),(6,.p (.box F)),(7,.msl 0 1 0 2),(37,.p (.sl 1 (z2 [a0,a1]))),(38,i64 2),(8,i64 1),(39,i64 1)]⟩,[.cells z0 [.msl 1 1 0 c,.msl 2 1 0 c],.row z1 1 (bx (x9 a0 B c q)),.row z1 1 (bx (x9 a1 B c q))]⟩ True (z3 ?_) (fun _=>?_)
   ·refine q8 hT ?_
    refine⟨by decide,w9 rfl ?_⟩
    refine q8 hT ?_
    refine z3 ?_
    refine y7 (fun n s=>∃ (k:Nat) (j:Int),n+k=q∧j=k∧s=⟨⟨65,[(0,.p (.sl 1 (z2 [a0,a1]))),(1,.p (.sl 1 (z2 B))),(6,.p (.box F)),(7,.msl 0 1 0 2),(37,.p (.sl 1 (z2 [a0,a1]))),(38,i64 2),(8,i64 1),(39,i64 1),(44,bA a1),(45,i64 (bx a1).length),(46,i64 j)]⟩,[.cells z0 [.msl 1 1 0 c,.msl 2 1 0 c],.row z1 1 (bx (x9 a0 B c q)),.row z1 1 (bx (x9 a1 B c k))]⟩) q ⟨⟨65,_⟩,_⟩ (q7 [0,1,2] [0,1,6,7,37,38,8,39,44,45,46] rfl) ⟨0,0,by omega,rfl,rfl⟩ ?_
    rintro n2 s ⟨k,j,hnk,hj,rfl⟩
    refine q8 hT ?_
    refine z8 (z4 (y4 (fun h=>?_) (fun h=>?_)))
    ·have h:=k0q (show decide (j<(((bx a1).length:Nat):Int))=true from h)
     have hk:k<a1.length:=by omega
     have hkB:k<B.length:=by omega
     refine z5 ?_
     have hxa:=k0x hk
     have hxb:=k0x hkB
     have hst:=W3 c hxa hxb
     have hlb:=hBc _ (k1x hkB)
     generalize a1[k]=x at hxa hst
     generalize B[k]=b at hxb hst hlb
     have hxp:(bx a1)[j.toNat]?=some [u8 x]:=by rw[hj,k0v];exact u7 hxa
     have hbp:(z2 B)[j.toNat]?=some [bP b]:=by rw[hj,k0v];exact Q0 hxb
     have hml:=Q8 (B:=B) a1 hBc (k:=k) (by omega)
     have w:=wadd (x9 a1 B c k) b x hml hlb
     rw[hml,← hst]at w
     refine z7 ⟨⟨65,[(0,.p (.sl 1 (z2 [a0,a1]))),(1,.p (.sl 1 (z2 B))),(6,.p (.box F)),(7,.msl 0 1 0 2),(37,.p (.sl 1 (z2 [a0,a1]))),(38,i64 2),(8,i64 1),(39,i64 1),(44,bA a1),(45,i64 (bx a1).length),(46,i64 j)]⟩,[.cells z0 [.msl 1 1 0 c,.msl 2 1 0 c],.row z1 1 (bx (x9 a0 B c q)),.row z1 1 (bx (x9 a1 B c (k+1)))]⟩ True (z3 (q8 hT ?_)) (fun _=>?_)
     ·refine⟨by omega,w9 hxp ?_⟩
      refine v7 [10] [] hT y5 (by rfl) ?_
      refine⟨by decide,?_⟩
      refine⟨by omega,w9 hbp ?_⟩
      refine⟨_,_,Q7 [2] w rfl rfl rfl,?_⟩
      repeat first|refine⟨rfl,?_⟩|refine⟨⟨by decide,rfl⟩,?_⟩|refine⟨⟨by omega,w9 hbp rfl⟩,?_⟩
      exact⟨q7 [0,1,2] [0,1,6,7,37,38,8,39,44,45,46] rfl,trivial⟩
     ·refine q9 hT ?_
      exact⟨n2 - 1,by omega,_,q7 [0,1,2] [0,1,6,7,37,38,8,39,44,45,46] rfl,k+1,IntKind.i64.wrap (j+1),by omega,by rw[y8 _ (by omega) (by omega)];omega,rfl⟩
    ·have h:=k0z (show decide (j<(((bx a1).length:Nat):Int))=false from h)
     rw[show k=q by omega]
     refine x6 ?_
     exact⟨q7 [0,1,2] [0,1,6,7,37,38,8,39] rfl,trivial⟩
   ·refine q9 hT ?_
    exact⟨0,by decide,_,q7 [0,1,2] [0,1,6,7,37,38,39] rfl,(.inr (.inr ⟨rfl,rfl⟩))⟩
  ·refine q8 hT ?_
   refine z8 (z4 ?_)
   refine x6 ?_
   exact⟨q7 [0,1,2] [7] rfl,trivial⟩
 refine q8 hT ?_
 refine y9 ?_
 exact z9 [0,1,2] ⟨rfl,rfl⟩ rfl
theorem v2b (a0 a1:z6)(B:List z6)(q c:Nat)(q1:1≤q)(q2:q≤64)(c1:1≤c)(c2:c≤4096)(hA:∀ s∈([a0,a1]:List z6),s.length=q)(hB:B.length=q)(hBc:∀ s∈B,s.length=c) :
 AF Tryz.prog J6 [.p (.sl 1 (z2 [a0,a1])),.p (.sl 1 (z2 B))] [] (v8 (.tup [.msl 0 1 0 2,i64 0]) [.row z0 1 (z2 [x9 a0 B c q,x9 a1 B c q])]):=by
 refine y7c (M:=fun i=>([x9 a0 B c q,x9 a1 B c q]:List z6).getD i []) (n:=c) (fun i hi=>?_) (v2a a0 a1 B q c q1 q2 c1 c2 hA hB hBc)
 have:i=0∨i=1:=by omega
 rcases this with rfl|rfl <;> exact Q8 _ hBc (by omega)
theorem v2c (a0 a1 a2:z6)(B:List z6)(q c:Nat)(q1:1≤q)(q2:q≤64)(c1:1≤c)(c2:c≤4096)(hA:∀ s∈([a0,a1,a2]:List z6),s.length=q)(hB:B.length=q)(hBc:∀ s∈B,s.length=c) :
 AF Tryz.prog J6 [.p (.sl 1 (z2 [a0,a1,a2])),.p (.sl 1 (z2 B))] [] (v8 (.tup [.msl 0 1 0 3,i64 0]) [.cells z0 [.msl 1 1 0 c,.msl 2 1 0 c,.msl 3 1 0 c],.row z1 1 (bx (x9 a0 B c q)),.row z1 1 (bx (x9 a1 B c q)),.row z1 1 (bx (x9 a2 B c q))]):=by
 have wA:=J2 [a0,a1,a2] q (show 1≤3 by decide) (show 3≤64 by decide) q1 (by omega) hA
 have wB:=J2 B c (by omega) (by omega) c1 c2 hBc
 have wn:=q3h
 have hcl:=u5 B
 have h0:=k0x (show 0<B.length by omega)
 have hc0:=hBc _ (k1x (show 0<B.length by omega))
 generalize B[0]=b0 at h0 hc0
 have hx0:(z2 B)[(0:Int).toNat]?=some [bP b0]:=Q0 h0
 have hb0:=w6 b0
 have wf:=z2g q0q (bx b0).length (by omega) (fun _ _=>0) (fun i k _ _=>q3q i k)
 have ha0:a0.length=q:=hA a0 (by simp)
 have hx10:=w6 a0
 have ha1:a1.length=q:=hA a1 (by simp)
 have hx11:=w6 a1
 have ha2:a2.length=q:=hA a2 (by simp)
 have hx12:=w6 a2
 have wadd:=fun(to row:z6) (x:UInt8) (ht:to.length=c) (hr:row.length=c)=>q5u to row x (by omega) (by omega)
 unfold q2s at wn wadd
 generalize fP=F at wn wadd
 refine v6 hT q3k rfl rfl q3m rfl ?_
 refine q8 hT ?_
 refine z7 ⟨⟨65,[(0,.p (.sl 1 (z2 [a0,a1,a2]))),(1,.p (.sl 1 (z2 B)))]⟩,[]⟩ True (q8 hT ?_) (fun _=>?_)
 ·refine x7 (w7 wA _ rfl rfl) ?_
  refine x7 (w7 wB _ rfl rfl) ?_
  refine⟨by decide,w9 rfl ?_⟩
  refine z4 (y4 (fun h=>?_) (fun h=>?_))
  ·have h:((((bx a0).length:Nat):Int) != (((z2 B).length:Nat):Int))=true:=h
   rw[bne_iff_ne]at h
   omega
  exact z5 ⟨q7 [] [0,1] rfl,trivial⟩
 refine q8 hT ?_
 refine x7 (w7 wn _ rfl rfl) ?_
 refine y6 (fun st=>∃ c',c'=c∧st=⟨⟨65,[(0,.p (.sl 1 (z2 [a0,a1,a2]))),(1,.p (.sl 1 (z2 B))),(6,.p (.box F)),(7,.msl 0 1 0 3)]⟩,[.cells z0 [.msl 1 1 0 c',.msl 2 1 0 c',.msl 3 1 0 c'],.row z1 1 (bx (v9 (fun _ _=>0) c' 0)),.row z1 1 (bx (v9 (fun _ _=>0) c' 1)),.row z1 1 (bx (v9 (fun _ _=>0) c' 2))]⟩) (q9 hT ?_) ?_
 ·refine⟨by decide,w9 hx0 ?_⟩
  refine x7 wf ?_
  exact⟨_,q7 [0,1,2,3] [0,1,6,7] rfl,_,hb0.trans hc0,rfl⟩
 rintro _ ⟨c,rfl,rfl⟩
 clear wf
 refine z7 ⟨⟨65,[(7,.msl 0 1 0 3)]⟩,[.cells z0 [.msl 1 1 0 c,.msl 2 1 0 c,.msl 3 1 0 c],.row z1 1 (bx (x9 a0 B c q)),.row z1 1 (bx (x9 a1 B c q)),.row z1 1 (bx (x9 a2 B c q))]⟩ True (q8 hT ?_) (fun _=>?_)
 ·refine z3 ?_
  refine y7 (fun n s=>(n=3∧s=⟨⟨65,[(0,.p (.sl 1 (z2 [a0,a1,a2]))),(1,.p (.sl 1 (z2 B))),(6,.p (.box F)),(7,.msl 0 1 0 3),(37,.p (.sl 1 (z2 [a0,a1,a2]))),(38,i64 3),(39,i64 0)]⟩,[.cells z0 [.msl 1 1 0 c,.msl 2 1 0 c,.msl 3 1 0 c],.row z1 1 (bx (x9 a0 B c 0)),.row z1 1 (bx (x9 a1 B c 0)),.row z1 1 (bx (x9 a2 B c 0))]⟩)∨(n=2∧s=⟨⟨65,[(0,.p (.sl 1 (z2 [a0,a1,a2]))),(1,.p (.sl 1 (z2 B))),(6,.p (.box F)),(7,.msl 0 1 0 3),(37,.p (.sl 1 (z2 [a0,a1,a2]))),(38,i64 3),(39,i64 1)]⟩,[.cells z0 [.msl 1 1 0 c,.msl 2 1 0 c,.msl 3 1 0 c],.row z1 1 (bx (x9 a0 B c q)),.row z1 1 (bx (x9 a1 B c 0)),.row z1 1 (bx (x9 a2 B c 0))]⟩)∨(n=1∧s=⟨⟨65,[(0,.p (.sl 1 (z2 [a0,a1,a2]))),(1,.p (.sl 1 (z2 B))),(6,.p (.box F)),(7,.msl 0 1 0 3),(37,.p (.sl 1 (z2 [a0,a1,a2]))),(38,i64 3),(39,i64 2)]⟩,[.cells z0 [.msl 1 1 0 c,.msl 2 1 0 c,.msl 3 1 0 c],.row z1 1 (bx (x9 a0 B c q)),.row z1 1 (bx (x9 a1 B c q)),.row z1 1 (bx (x9 a2 B c 0))]⟩)∨(n=0∧s=⟨⟨65,[(0,.p (.sl 1 (z2 [a0,a1,a2]))),(1,.p (.sl 1 (z2 B))),(6,.p (.box F)),(7,.msl 0 1 0 3),(37,.p (.sl 1 (z2 [a0,a1,a2]))),(38,i64 3),(39,i64 3)]⟩,[.cells z0 [.msl 1 1 0 c,.msl 2 1 0 c,.msl 3 1 0 c],.row z1 1 (bx (x9 a0 B c q)),.row z1 1 (bx (x9 a1 B c q)),.row z1 1 (bx (x9 a2 B c q))]⟩)) 3 ⟨⟨65,_⟩,_⟩ (q7 [0,1,2,3] [0,1,6,7,37,38,39] rfl) (.inl ⟨rfl,by rw[q3r a0 B c 0,q3r a1 B c 1,q3r a2 B c 2];rfl⟩) ?_
  rintro n s (⟨rfl,rfl⟩|⟨rfl,rfl⟩|⟨rfl,rfl⟩|⟨rfl,rfl⟩)
  ·refine q8 hT ?_
   refine z8 (z4 ?_)
   refine z5 ?_
   refine z7 ⟨⟨65,[(0,.p (.sl 1 (z2 [a0,a1,a2]))),(1,.p (.sl 1 (z2 B))),(6,.p (.box F)),(7,.msl 0 1 0 3),(37,.p (.sl 1 (z2 [a0,a1,a2]))),(38,i64 3),(8,i64 0),(39,i64 0)]⟩,[.cells z0 [.msl 1 1 0 c,.msl 2 1 0 c,.msl 3 1 0 c],.row z1 1 (bx (x9 a0 B c q)),.row z1 1 (bx (x9 a1 B c 0)),.row z1 1 (bx (x9 a2 B c 0))]⟩ True (z3 ?_) (fun _=>?_)
   ·refine q8 hT ?_
    refine⟨by decide,w9 rfl ?_⟩
    refine q8 hT ?_
    refine z3 ?_
    refine y7 (fun n s=>∃ (k:Nat) (j:Int),n+k=q∧j=k∧s=⟨⟨65,[(0,.p (.sl 1 (z2 [a0,a1,a2]))),(1,.p (.sl 1 (z2 B))),(6,.p (.box F)),(7,.msl 0 1 0 3),(37,.p (.sl 1 (z2 [a0,a1,a2]))),(38,i64 3),(8,i64 0),(39,i64 0),(44,bA a0),(45,i64 (bx a0).length),(46,i64 j)]⟩,[.cells z0 [.msl 1 1 0 c,.msl 2 1 0 c,.msl 3 1 0 c],.row z1 1 (bx (x9 a0 B c k)),.row z1 1 (bx (x9 a1 B c 0)),.row z1 1 (bx (x9 a2 B c 0))]⟩) q ⟨⟨65,_⟩,_⟩ (q7 [0,1,2,3] [0,1,6,7,37,38,8,39,44,45,46] rfl) ⟨0,0,by omega,rfl,rfl⟩ ?_
    rintro n2 s ⟨k,j,hnk,hj,rfl⟩
    refine q8 hT ?_
    refine z8 (z4 (y4 (fun h=>?_) (fun h=>?_)))
    ·have h:=k0q (show decide (j<(((bx a0).length:Nat):Int))=true from h)
     have hk:k<a0.length:=by omega
     have hkB:k<B.length:=by omega
     refine z5 ?_
     have hxa:=k0x hk
     have hxb:=k0x hkB
     have hst:=W3 c hxa hxb
     have hlb:=hBc _ (k1x hkB)
     generalize a0[k]=x at hxa hst
     generalize B[k]=b at hxb hst hlb
     have hxp:(bx a0)[j.toNat]?=some [u8 x]:=by rw[hj,k0v];exact u7 hxa
     have hbp:(z2 B)[j.toNat]?=some [bP b]:=by rw[hj,k0v];exact Q0 hxb
     have hml:=Q8 (B:=B) a0 hBc (k:=k) (by omega)
     have w:=wadd (x9 a0 B c k) b x hml hlb
     rw[hml,← hst]at w
     refine z7 ⟨⟨65,[(0,.p (.sl 1 (z2 [a0,a1,a2]))),(1,.p (.sl 1 (z2 B))),(6,.p (.box F)),(7,.msl 0 1 0 3),(37,.p (.sl 1 (z2 [a0,a1,a2]))),(38,i64 3),(8,i64 0),(39,i64 0),(44,bA a0),(45,i64 (bx a0).length),(46,i64 j)]⟩,[.cells z0 [.msl 1 1 0 c,.msl 2 1 0 c,.msl 3 1 0 c],.row z1 1 (bx (x9 a0 B c (k+1))),.row z1 1 (bx (x9 a1 B c 0)),.row z1 1 (bx (x9 a2 B c 0))]⟩ True (z3 (q8 hT ?_)) (fun _=>?_)
     ·refine⟨by omega,w9 hxp ?_⟩
      refine v7 [10] [] hT y5 (by rfl) ?_
      refine⟨by decide,?_⟩
      refine⟨by omega,w9 hbp ?_⟩
      refine⟨_,_,Q7 [1] w rfl rfl rfl,?_⟩
      repeat first|refine⟨rfl,?_⟩|refine⟨⟨by decide,rfl⟩,?_⟩|refine⟨⟨by omega,w9 hbp rfl⟩,?_⟩
      exact⟨q7 [0,1,2,3] [0,1,6,7,37,38,8,39,44,45,46] rfl,trivial⟩
     ·refine q9 hT ?_
      exact⟨n2 - 1,by omega,_,q7 [0,1,2,3] [0,1,6,7,37,38,8,39,44,45,46] rfl,k+1,IntKind.i64.wrap (j+1),by omega,by rw[y8 _ (by omega) (by omega)];omega,rfl⟩
    ·have h:=k0z (show decide (j<(((bx a0).length:Nat):Int))=false from h)
     rw[show k=q by omega]
     refine x6 ?_
     exact⟨q7 [0,1,2,3] [0,1,6,7,37,38,8,39] rfl,trivial⟩
   ·refine q9 hT ?_
    exact⟨2,by decide,_,q7 [0,1,2,3] [0,1,6,7,37,38,39] rfl,(.inr (.inl ⟨rfl,rfl⟩))⟩
  ·refine q8 hT ?_
   refine z8 (z4 ?_)
   refine z5 ?_
   refine z7 ⟨⟨65,[(0,.p (.sl 1 (z2 [a0,a1,a2]))),(1,.p (.sl 1 (z2 B))),(6,.p (.box F)),(7,.msl 0 1 0 3),(37,.p (.sl 1 (z2 [a0,a1,a2]))),(38,i64 3),(8,i64 1),(39,i64 1)]⟩,[.cells z0 [.msl 1 1 0 c,.msl 2 1 0 c,.msl 3 1 0 c],.row z1 1 (bx (x9 a0 B c q)),.row z1 1 (bx (x9 a1 B c q)),.row z1 1 (bx (x9 a2 B c 0))]⟩ True (z3 ?_) (fun _=>?_)
   ·refine q8 hT ?_
    refine⟨by decide,w9 rfl ?_⟩
    refine q8 hT ?_
    refine z3 ?_
    refine y7 (fun n s=>∃ (k:Nat) (j:Int),n+k=q∧j=k∧s=⟨⟨65,[(0,.p (.sl 1 (z2 [a0,a1,a2]))),(1,.p (.sl 1 (z2 B))),(6,.p (.box F)),(7,.msl 0 1 0 3),(37,.p (.sl 1 (z2 [a0,a1,a2]))),(38,i64 3),(8,i64 1),(39,i64 1),(44,bA a1),(45,i64 (bx a1).length),(46,i64 j)]⟩,[.cells z0 [.msl 1 1 0 c,.msl 2 1 0 c,.msl 3 1 0 c],.row z1 1 (bx (x9 a0 B c q)),.row z1 1 (bx (x9 a1 B c k)),.row z1 1 (bx (x9 a2 B c 0))]⟩) q ⟨⟨65,_⟩,_⟩ (q7 [0,1,2,3] [0,1,6,7,37,38,8,39,44,45,46] rfl) ⟨0,0,by omega,rfl,rfl⟩ ?_
    rintro n2 s ⟨k,j,hnk,hj,rfl⟩
    refine q8 hT ?_
    refine z8 (z4 (y4 (fun h=>?_) (fun h=>?_)))
    ·have h:=k0q (show decide (j<(((bx a1).length:Nat):Int))=true from h)
     have hk:k<a1.length:=by omega
     have hkB:k<B.length:=by omega
     refine z5 ?_
     have hxa:=k0x hk
     have hxb:=k0x hkB
     have hst:=W3 c hxa hxb
     have hlb:=hBc _ (k1x hkB)
     generalize a1[k]=x at hxa hst
     generalize B[k]=b at hxb hst hlb
     have hxp:(bx a1)[j.toNat]?=some [u8 x]:=by rw[hj,k0v];exact u7 hxa
     have hbp:(z2 B)[j.toNat]?=some [bP b]:=by rw[hj,k0v];exact Q0 hxb
     have hml:=Q8 (B:=B) a1 hBc (k:=k) (by omega)
     have w:=wadd (x9 a1 B c k) b x hml hlb
     rw[hml,← hst]at w
     refine z7 ⟨⟨65,[(0,.p (.sl 1 (z2 [a0,a1,a2]))),(1,.p (.sl 1 (z2 B))),(6,.p (.box F)),(7,.msl 0 1 0 3),(37,.p (.sl 1 (z2 [a0,a1,a2]))),(38,i64 3),(8,i64 1),(39,i64 1),(44,bA a1),(45,i64 (bx a1).length),(46,i64 j)]⟩,[.cells z0 [.msl 1 1 0 c,.msl 2 1 0 c,.msl 3 1 0 c],.row z1 1 (bx (x9 a0 B c q)),.row z1 1 (bx (x9 a1 B c (k+1))),.row z1 1 (bx (x9 a2 B c 0))]⟩ True (z3 (q8 hT ?_)) (fun _=>?_)
     ·refine⟨by omega,w9 hxp ?_⟩
      refine v7 [10] [] hT y5 (by rfl) ?_
      refine⟨by decide,?_⟩
      refine⟨by omega,w9 hbp ?_⟩
      refine⟨_,_,Q7 [2] w rfl rfl rfl,?_⟩
      repeat first|refine⟨rfl,?_⟩|refine⟨⟨by decide,rfl⟩,?_⟩|refine⟨⟨by omega,w9 hbp rfl⟩,?_⟩
      exact⟨q7 [0,1,2,3] [0,1,6,7,37,38,8,39,44,45,46] rfl,trivial⟩
     ·refine q9 hT ?_
      exact⟨n2 - 1,by omega,_,q7 [0,1,2,3] [0,1,6,7,37,38,8,39,44,45,46] rfl,k+1,IntKind.i64.wrap (j+1),by omega,by rw[y8 _ (by omega) (by omega)];omega,rfl⟩
    ·have h:=k0z (show decide (j<(((bx a1).length:Nat):Int))=false from h)
     rw[show k=q by omega]
     refine x6 ?_
     exact⟨q7 [0,1,2,3] [0,1,6,7,37,38,8,39] rfl,trivial⟩
   ·refine q9 hT ?_
    exact⟨1,by decide,_,q7 [0,1,2,3] [0,1,6,7,37,38,39] rfl,(.inr (.inr (.inl ⟨rfl,rfl⟩)))⟩
  ·refine q8 hT ?_
   refine z8 (z4 ?_)
   refine z5 ?_
   refine z7 ⟨⟨65,[(0,.p (.sl 1 (z2 [a0,a1,a2]))),(1,.p (.sl 1 (z2 B))),(6,.p (.box F)),(7,.msl 0 1 0 3),(37,.p (.sl 1 (z2 [a0,a1,a2]))),(38,i64 3),(8,i64 2),(39,i64 2)]⟩,[.cells z0 [.msl 1 1 0 c,.msl 2 1 0 c,.msl 3 1 0 c],.row z1 1 (bx (x9 a0 B c q)),.row z1 1 (bx (x9 a1 B c q)),.row z1 1 (bx (x9 a2 B c q))]⟩ True (z3 ?_) (fun _=>?_)
   ·refine q8 hT ?_
    refine⟨by decide,w9 rfl ?_⟩
    refine q8 hT ?_
    refine z3 ?_
    refine y7 (fun n s=>∃ (k:Nat) (j:Int),n+k=q∧j=k∧s=⟨⟨65,[(0,.p (.sl 1 (z2 [a0,a1,a2]))),(1,.p (.sl 1 (z2 B))),(6,.p (.box F)),(7,.msl 0 1 0 3),(37,.p (.sl 1 (z2 [a0,a1,a2]))),(38,i64 3),(8,i64 2),(39,i64 2),(44,bA a2),(45,i64 (bx a2).length),(46,i64 j)]⟩,[.cells z0 [.msl 1 1 0 c,.msl 2 1 0 c,.msl 3 1 0 c],.row z1 1 (bx (x9 a0 B c q)),.row z1 1 (bx (x9 a1 B c q)),.row z1 1 (bx (x9 a2 B c k))]⟩) q ⟨⟨65,_⟩,_⟩ (q7 [0,1,2,3] [0,1,6,7,37,38,8,39,44,45,46] rfl) ⟨0,0,by omega,rfl,rfl⟩ ?_
    rintro n2 s ⟨k,j,hnk,hj,rfl⟩
    refine q8 hT ?_
    refine z8 (z4 (y4 (fun h=>?_) (fun h=>?_)))
    ·have h:=k0q (show decide (j<(((bx a2).length:Nat):Int))=true from h)
     have hk:k<a2.length:=by omega
     have hkB:k<B.length:=by omega
     refine z5 ?_
     have hxa:=k0x hk
     have hxb:=k0x hkB
     have hst:=W3 c hxa hxb
     have hlb:=hBc _ (k1x hkB)
     generalize a2[k]=x at hxa hst
     generalize B[k]=b at hxb hst hlb
     have hxp:(bx a2)[j.toNat]?=some [u8 x]:=by rw[hj,k0v];exact u7 hxa
     have hbp:(z2 B)[j.toNat]?=some [bP b]:=by rw[hj,k0v];exact Q0 hxb
     have hml:=Q8 (B:=B) a2 hBc (k:=k) (by omega)
     have w:=wadd (x9 a2 B c k) b x hml hlb
     rw[hml,← hst]at w
     refine z7 ⟨⟨65,[(0,.p (.sl 1 (z2 [a0,a1,a2]))),(1,.p (.sl 1 (z2 B))),(6,.p (.box F)),(7,.msl 0 1 0 3),(37,.p (.sl 1 (z2 [a0,a1,a2]))),(38,i64 3),(8,i64 2),(39,i64 2),(44,bA a2),(45,i64 (bx a2).length),(46,i64 j)]⟩,[.cells z0 [.msl 1 1 0 c,.msl 2 1 0 c,.msl 3 1 0 c],.row z1 1 (bx (x9 a0 B c q)),.row z1 1 (bx (x9 a1 B c q)),.row z1 1 (bx (x9 a2 B c (k+1)))]⟩ True (z3 (q8 hT ?_)) (fun _=>?_)
     ·refine⟨by omega,w9 hxp ?_⟩
      refine v7 [10] [] hT y5 (by rfl) ?_
      refine⟨by decide,?_⟩
      refine⟨by omega,w9 hbp ?_⟩
      refine⟨_,_,Q7 [3] w rfl rfl rfl,?_⟩
      repeat first|refine⟨rfl,?_⟩|refine⟨⟨by decide,rfl⟩,?_⟩|refine⟨⟨by omega,w9 hbp rfl⟩,?_⟩
      exact⟨q7 [0,1,2,3] [0,1,6,7,37,38,8,39,44,45,46] rfl,trivial⟩
     ·refine q9 hT ?_
      exact⟨n2 - 1,by omega,_,q7 [0,1,2,3] [0,1,6,7,37,38,8,39,44,45,46] rfl,k+1,IntKind.i64.wrap (j+1),by omega,by rw[y8 _ (by omega) (by omega)];omega,rfl⟩
    ·have h:=k0z (show decide (j<(((bx a2).length:Nat):Int))=false from h)
     rw[show k=q by omega]
     refine x6 ?_
     exact⟨q7 [0,1,2,3] [0,1,6,7,37,38,8,39] rfl,trivial⟩
   ·refine q9 hT ?_
    exact⟨0,by decide,_,q7 [0,1,2,3] [0,1,6,7,37,38,39] rfl,(.inr (.inr (.inr ⟨rfl,rfl⟩)))⟩
  ·refine q8 hT ?_
   refine z8 (z4 ?_)
   refine x6 ?_
   exact⟨q7 [0,1,2,3] [7] rfl,trivial⟩
 refine q8 hT ?_
 refine y9 ?_
 exact z9 [0,1,2,3] ⟨rfl,rfl⟩ rfl
theorem v2d (a0 a1 a2:z6)(B:List z6)(q c:Nat)(q1:1≤q)(q2:q≤64)(c1:1≤c)(c2:c≤4096)(hA:∀ s∈([a0,a1,a2]:List z6),s.length=q)(hB:B.length=q)(hBc:∀ s∈B,s.length=c) :
 AF Tryz.prog J6 [.p (.sl 1 (z2 [a0,a1,a2])),.p (.sl 1 (z2 B))] [] (v8 (.tup [.msl 0 1 0 3,i64 0]) [.row z0 1 (z2 [x9 a0 B c q,x9 a1 B c q,x9 a2 B c q])]):=by
 refine y7d (M:=fun i=>([x9 a0 B c q,x9 a1 B c q,x9 a2 B c q]:List z6).getD i []) (n:=c) (fun i hi=>?_) (v2c a0 a1 a2 B q c q1 q2 c1 c2 hA hB hBc)
 have:i=0∨i=1∨i=2:=by omega
 rcases this with rfl|rfl|rfl <;> exact Q8 _ hBc (by omega)
theorem v2e (a0 a1 a2 a3:z6)(B:List z6)(q c:Nat)(q1:1≤q)(q2:q≤64)(c1:1≤c)(c2:c≤4096)(hA:∀ s∈([a0,a1,a2,a3]:List z6),s.length=q)(hB:B.length=q)(hBc:∀ s∈B,s.length=c) :
 AF Tryz.prog J6 [.p (.sl 1 (z2 [a0,a1,a2,a3])),.p (.sl 1 (z2 B))] [] (v8 (.tup [.msl 0 1 0 4,i64 0]) [.cells z0 [.msl 1 1 0 c,.msl 2 1 0 c,.msl 3 1 0 c,.msl 4 1 0 c],.row z1 1 (bx (x9 a0 B c q)),.row z1 1 (bx (x9 a1 B c q)),.row z1 1 (bx (x9 a2 B c q)),.row z1 1 (bx (x9 a3 B c q))]):=by
 have wA:=J2 [a0,a1,a2,a3] q (show 1≤4 by decide) (show 4≤64 by decide) q1 (by omega) hA
 have wB:=J2 B c (by omega) (by omega) c1 c2 hBc
 have wn:=q3h
 have hcl:=u5 B
 have h0:=k0x (show 0<B.length by omega)
 have hc0:=hBc _ (k1x (show 0<B.length by omega))
 generalize B[0]=b0 at h0 hc0
 have hx0:(z2 B)[(0:Int).toNat]?=some [bP b0]:=Q0 h0
 have hb0:=w6 b0
 have wf:=z2h q0q (bx b0).length (by omega) (fun _ _=>0) (fun i k _ _=>q3q i k)
 have ha0:a0.length=q:=hA a0 (by simp)
 have hx10:=w6 a0
 have ha1:a1.length=q:=hA a1 (by simp)
 have hx11:=w6 a1
 have ha2:a2.length=q:=hA a2 (by simp)
 have hx12:=w6 a2
 have ha3:a3.length=q:=hA a3 (by simp)
 have hx13:=w6 a3
 have wadd:=fun(to row:z6) (x:UInt8) (ht:to.length=c) (hr:row.length=c)=>q5u to row x (by omega) (by omega)
 unfold q2s at wn wadd
 generalize fP=F at wn wadd
 refine v6 hT q3k rfl rfl q3m rfl ?_
 refine q8 hT ?_
 refine z7 ⟨⟨65,[(0,.p (.sl 1 (z2 [a0,a1,a2,a3]))),(1,.p (.sl 1 (z2 B)))]⟩,[]⟩ True (q8 hT ?_) (fun _=>?_)
 ·refine x7 (w7 wA _ rfl rfl) ?_
  refine x7 (w7 wB _ rfl rfl) ?_
  refine⟨by decide,w9 rfl ?_⟩
  refine z4 (y4 (fun h=>?_) (fun h=>?_))
  ·have h:((((bx a0).length:Nat):Int) != (((z2 B).length:Nat):Int))=true:=h
   rw[bne_iff_ne]at h
   omega
  exact z5 ⟨q7 [] [0,1] rfl,trivial⟩
 refine q8 hT ?_
 refine x7 (w7 wn _ rfl rfl) ?_
 refine y6 (fun st=>∃ c',c'=c∧st=⟨⟨65,[(0,.p (.sl 1 (z2 [a0,a1,a2,a3]))),(1,.p (.sl 1 (z2 B))),(6,.p (.box F)),(7,.msl 0 1 0 4)]⟩,[.cells z0 [.msl 1 1 0 c',.msl 2 1 0 c',.msl 3 1 0 c',.msl 4 1 0 c'],.row z1 1 (bx (v9 (fun _ _=>0) c' 0)),.row z1 1 (bx (v9 (fun _ _=>0) c' 1)),.row z1 1 (bx (v9 (fun _ _=>0) c' 2)),.row z1 1 (bx (v9 (fun _ _=>0) c' 3))]⟩) (q9 hT ?_) ?_
 ·refine⟨by decide,w9 hx0 ?_⟩
  refine x7 wf ?_
  exact⟨_,q7 [0,1,2,3,4] [0,1,6,7] rfl,_,hb0.trans hc0,rfl⟩
 rintro _ ⟨c,rfl,rfl⟩
 clear wf
 refine z7 ⟨⟨65,[(7,.msl 0 1 0 4)]⟩,[.cells z0 [.msl 1 1 0 c,.msl 2 1 0 c,.msl 3 1 0 c,.msl 4 1 0 c],.row z1 1 (bx (x9 a0 B c q)),.row z1 1 (bx (x9 a1 B c q)),.row z1 1 (bx (x9 a2 B c q)),.row z1 1 (bx (x9 a3 B c q))]⟩ True (q8 hT ?_) (fun _=>?_)
 ·refine z3 ?_
  refine y7 (fun n s=>(n=4∧s=⟨⟨65,[(0,.p (.sl 1 (z2 [a0,a1,a2,a3]))),(1,.p (.sl 1 (z2 B))),(6,.p (.box F)),(7,.msl 0 1 0 4),(37,.p (.sl 1 (z2 [a0,a1,a2,a3]))),(38,i64 4),(39,i64 0)]⟩,[.cells z0 [.msl 1 1 0 c,.msl 2 1 0 c,.msl 3 1 0 c,.msl 4 1 0 c],.row z1 1 (bx (x9 a0 B c 0)),.row z1 1 (bx (x9 a1 B c 0)),.row z1 1 (bx (x9 a2 B c 0)),.row z1 1 (bx (x9 a3 B c 0))]⟩)∨(n=3∧s=⟨⟨65,[(0,.p (.sl 1 (z2 [a0,a1,a2,a3]))),(1,.p (.sl 1 (z2 B))),(6,.p (.box F)),(7,.msl 0 1 0 4),(37,.p (.sl 1 (z2 [a0,a1,a2,a3]))),(38,i64 4),(39,i64 1)]⟩,[.cells z0 [.msl 1 1 0 c,.msl 2 1 0 c,.msl 3 1 0 c,.msl 4 1 0 c],.row z1 1 (bx (x9 a0 B c q)),.row z1 1 (bx (x9 a1 B c 0)),.row z1 1 (bx (x9 a2 B c 0)),.row z1 1 (bx (x9 a3 B c 0))]⟩)∨(n=2∧s=⟨⟨65,[(0,.p (.sl 1 (z2 [a0,a1,a2,a3]))),(1,.p (.sl 1 (z2 B))),(6,.p (.box F)),(7,.msl 0 1 0 4),(37,.p (.sl 1 (z2 [a0,a1,a2,a3]))),(38,i64 4),(39,i64 2)]⟩,[.cells z0 [.msl 1 1 0 c,.msl 2 1 0 c,.msl 3 1 0 c,.msl 4 1 0 c],.row z1 1 (bx (x9 a0 B c q)),.row z1 1 (bx (x9 a1 B c q)),.row z1 1 (bx (x9 a2 B c 0)),.row z1 1 (bx (x9 a3 B c 0))]⟩)∨(n=1∧s=⟨⟨65,[(0,.p (.sl 1 (z2 [a0,a1,a2,a3]))),(1,.p (.sl 1 (z2 B))),(6,.p (.box F)),(7,.msl 0 1 0 4),(37,.p (.sl 1 (z2 [a0,a1,a2,a3]))),(38,i64 4),(39,i64 3)]⟩,[.cells z0 [.msl 1 1 0 c,.msl 2 1 0 c,.msl 3 1 0 c,.msl 4 1 0 c],.row z1 1 (bx (x9 a0 B c q)),.row z1 1 (bx (x9 a1 B c q)),.row z1 1 (bx (x9 a2 B c q)),.row z1 1 (bx (x9 a3 B c 0))]⟩)∨(n=0∧s=⟨⟨65,[(0,.p (.sl 1 (z2 [a0,a1,a2,a3]))),(1,.p (.sl 1 (z2 B))),(6,.p (.box F)),(7,.msl 0 1 0 4),(37,.p (.sl 1 (z2 [a0,a1,a2,a3]))),(38,i64 4),(39,i64 4)]⟩,[.cells z0 [.msl 1 1 0 c,.msl 2 1 0 c,.msl 3 1 0 c,.msl 4 1 0 c],.row z1 1 (bx (x9 a0 B c q)),.row z1 1 (bx (x9 a1 B c q)),.row z1 1 (bx (x9 a2 B c q)),.row z1 1 (bx (x9 a3 B c q))]⟩)) 4 ⟨⟨65,_⟩,_⟩ (q7 [0,1,2,3,4] [0,1,6,7,37,38,39] rfl) (.inl ⟨rfl,by rw[q3r a0 B c 0,q3r a1 B c 1,q3r a2 B c 2,q3r a3 B c 3];rfl⟩) ?_
  rintro n s (⟨rfl,rfl⟩|⟨rfl,rfl⟩|⟨rfl,rfl⟩|⟨rfl,rfl⟩|⟨rfl,rfl⟩)
  ·refine q8 hT ?_
   refine z8 (z4 ?_)
   refine z5 ?_
   refine z7 ⟨⟨65,[(0,.p (.sl 1 (z2 [a0,a1,a2,a3]))),(1,.p (.sl 1 (z2 B))),(6,.p (.box F)),(7,.msl 0 1 0 4),(37,.p (.sl 1 (z2 [a0,a1,a2,a3]))),(38,i64 4),(8,i64 0),(39,i64 0)]⟩,[.cells z0 [.msl 1 1 0 c,.msl 2 1 0 c,.msl 3 1 0 c,.msl 4 1 0 c],.row z1 1 (bx (x9 a0 B c q)),.row z1 1 (bx (x9 a1 B c 0)),.row z1 1 (bx (x9 a2 B c 0)),.row z1 1 (bx (x9 a3 B c 0))]⟩ True (z3 ?_) (fun _=>?_)
   ·refine q8 hT ?_
    refine⟨by decide,w9 rfl ?_⟩
    refine q8 hT ?_
    refine z3 ?_
    refine y7 (fun n s=>∃ (k:Nat) (j:Int),n+k=q∧j=k∧s=⟨⟨65,[(0,.p (.sl 1 (z2 [a0,a1,a2,a3]))),(1,.p (.sl 1 (z2 B))),(6,.p (.box F)),(7,.msl 0 1 0 4),(37,.p (.sl 1 (z2 [a0,a1,a2,a3]))),(38,i64 4),(8,i64 0),(39,i64 0),(44,bA a0),(45,i64 (bx a0).length),(46,i64 j)]⟩,[.cells z0 [.msl 1 1 0 c,.msl 2 1 0 c,.msl 3 1 0 c,.msl 4 1 0 c],.row z1 1 (bx (x9 a0 B c k)),.row z1 1 (bx (x9 a1 B c 0)),.row z1 1 (bx (x9 a2 B c 0)),.row z1 1 (bx (x9 a3 B c 0))]⟩) q ⟨⟨65,_⟩,_⟩ (q7 [0,1,2,3,4] [0,1,6,7,37,38,8,39,44,45,46] rfl) ⟨0,0,by omega,rfl,rfl⟩ ?_
    rintro n2 s ⟨k,j,hnk,hj,rfl⟩
    refine q8 hT ?_
    refine z8 (z4 (y4 (fun h=>?_) (fun h=>?_)))
    ·have h:=k0q (show decide (j<(((bx a0).length:Nat):Int))=true from h)
     have hk:k<a0.length:=by omega
     have hkB:k<B.length:=by omega
     refine z5 ?_
     have hxa:=k0x hk
     have hxb:=k0x hkB
     have hst:=W3 c hxa hxb
     have hlb:=hBc _ (k1x hkB)
     generalize a0[k]=x at hxa hst
     generalize B[k]=b at hxb hst hlb
     have hxp:(bx a0)[j.toNat]?=some [u8 x]:=by rw[hj,k0v];exact u7 hxa
     have hbp:(z2 B)[j.toNat]?=some [bP b]:=by rw[hj,k0v];exact Q0 hxb
     have hml:=Q8 (B:=B) a0 hBc (k:=k) (by omega)
     have w:=wadd (x9 a0 B c k) b x hml hlb
     rw[hml,← hst]at w
     refine z7 ⟨⟨65,[(0,.p (.sl 1 (z2 [a0,a1,a2,a3]))),(1,.p (.sl 1 (z2 B))),(6,.p (.box F)),(7,.msl 0 1 0 4),(37,.p (.sl 1 (z2 [a0,a1,a2,a3]))),(38,i64 4),(8,i64 0),(39,i64 0),(44,bA a0),(45,i64 (bx a0).length),(46,i64 j)]⟩,[.cells z0 [.msl 1 1 0 c,.msl 2 1 0 c,.msl 3 1 0 c,.msl 4 1 0 c],.row z1 1 (bx (x9 a0 B c (k+1))),.row z1 1 (bx (x9 a1 B c 0)),.row z1 1 (bx (x9 a2 B c 0)),.row z1 1 (bx (x9 a3 B c 0))]⟩ True (z3 (q8 hT ?_)) (fun _=>?_)
     ·refine⟨by omega,w9 hxp ?_⟩
      refine v7 [10] [] hT y5 (by rfl) ?_
      refine⟨by decide,?_⟩
      refine⟨by omega,w9 hbp ?_⟩
      refine⟨_,_,Q7 [1] w rfl rfl rfl,?_⟩
      repeat first|refine⟨rfl,?_⟩|refine⟨⟨by decide,rfl⟩,?_⟩|refine⟨⟨by omega,w9 hbp rfl⟩,?_⟩
      exact⟨q7 [0,1,2,3,4] [0,1,6,7,37,38,8,39,44,45,46] rfl,trivial⟩
     ·refine q9 hT ?_
      exact⟨n2 - 1,by omega,_,q7 [0,1,2,3,4] [0,1,6,7,37,38,8,39,44,45,46] rfl,k+1,IntKind.i64.wrap (j+1),by omega,by rw[y8 _ (by omega) (by omega)];omega,rfl⟩
    ·have h:=k0z (show decide (j<(((bx a0).length:Nat):Int))=false from h)
     rw[show k=q by omega]
     refine x6 ?_
     exact⟨q7 [0,1,2,3,4] [0,1,6,7,37,38,8,39] rfl,trivial⟩
   ·refine q9 hT ?_
    exact⟨3,by decide,_,q7 [0,1,2,3,4] [0,1,6,7,37,38,39] rfl,(.inr (.inl ⟨rfl,rfl⟩))⟩
  ·refine q8 hT ?_
   refine z8 (z4 ?_)
   refine z5 ?_
   refine z7 ⟨⟨65,[(0,.p (.sl 1 (z2 [a0,a1,a2,a3]))),(1,.p (.sl 1 (z2 B))),(6,.p (.box F)),(7,.msl 0 1 0 4),(37,.p (.sl 1 (z2 [a0,a1,a2,a3]))),(38,i64 4),(8,i64 1),(39,i64 1)]⟩,[.cells z0 [.msl 1 1 0 c,.msl 2 1 0 c,.msl 3 1 0 c,.msl 4 1 0 c],.row z1 1 (bx (x9 a0 B c q)),.row z1 1 (bx (x9 a1 B c q)),.row z1 1 (bx (x9 a2 B c 0)),.row z1 1 (bx (x9 a3 B c 0))]⟩ True (z3 ?_) (fun _=>?_)
   ·refine q8 hT ?_
    refine⟨by decide,w9 rfl ?_⟩
    refine q8 hT ?_
    refine z3 ?_
    refine y7 (fun n s=>∃ (k:Nat) (j:Int),n+k=q∧j=k∧s=⟨⟨65,[(0,.p (.sl 1 (z2 [a0,a1,a2,a3]))),(1,.p (.sl 1 (z2 B))),(6,.p (.box F)),(7,.msl 0 1 0 4),(37,.p (.sl 1 (z2 [a0,a1,a2,a3]))),(38,i64 4),(8,i64 1),(39,i64 1),(44,bA a1),(45,i64 (bx a1).length),(46,i64 j)]⟩,[.cells z0 [.msl 1 1 0 c,.msl 2 1 0 c,.msl 3 1 0 c,.msl 4 1 0 c],.row z1 1 (bx (x9 a0 B c q)),.row z1 1 (bx (x9 a1 B c k)),.row z1 1 (bx (x9 a2 B c 0)),.row z1 1 (bx (x9 a3 B c 0))]⟩) q ⟨⟨65,_⟩,_⟩ (q7 [0,1,2,3,4] [0,1,6,7,37,38,8,39,44,45,46] rfl) ⟨0,0,by omega,rfl,rfl⟩ ?_
    rintro n2 s ⟨k,j,hnk,hj,rfl⟩
    refine q8 hT ?_
    refine z8 (z4 (y4 (fun h=>?_) (fun h=>?_)))
    ·have h:=k0q (show decide (j<(((bx a1).length:Nat):Int))=true from h)
     have hk:k<a1.length:=by omega
     have hkB:k<B.length:=by omega
     refine z5 ?_
     have hxa:=k0x hk
     have hxb:=k0x hkB
     have hst:=W3 c hxa hxb
     have hlb:=hBc _ (k1x hkB)
     generalize a1[k]=x at hxa hst
     generalize B[k]=b at hxb hst hlb
     have hxp:(bx a1)[j.toNat]?=some [u8 x]:=by rw[hj,k0v];exact u7 hxa
     have hbp:(z2 B)[j.toNat]?=some [bP b]:=by rw[hj,k0v];exact Q0 hxb
     have hml:=Q8 (B:=B) a1 hBc (k:=k) (by omega)
     have w:=wadd (x9 a1 B c k) b x hml hlb
     rw[hml,← hst]at w
     refine z7 ⟨⟨65,[(0,.p (.sl 1 (z2 [a0,a1,a2,a3]))),(1,.p (.sl 1 (z2 B))),(6,.p (.box F)),(7,.msl 0 1 0 4),(37,.p (.sl 1 (z2 [a0,a1,a2,a3]))),(38,i64 4),(8,i64 1),(39,i64 1),(44,bA a1),(45,i64 (bx a1).length),(46,i64 j)]⟩,[.cells z0 [.msl 1 1 0 c,.msl 2 1 0 c,.msl 3 1 0 c,.msl 4 1 0 c],.row z1 1 (bx (x9 a0 B c q)),.row z1 1 (bx (x9 a1 B c (k+1))),.row z1 1 (bx (x9 a2 B c 0)),.row z1 1 (bx (x9 a3 B c 0))]⟩ True (z3 (q8 hT ?_)) (fun _=>?_)
     ·refine⟨by omega,w9 hxp ?_⟩
      refine v7 [10] [] hT y5 (by rfl) ?_
      refine⟨by decide,?_⟩
      refine⟨by omega,w9 hbp ?_⟩
      refine⟨_,_,Q7 [2] w rfl rfl rfl,?_⟩
      repeat first|refine⟨rfl,?_⟩|refine⟨⟨by decide,rfl⟩,?_⟩|refine⟨⟨by omega,w9 hbp rfl⟩,?_⟩
      exact⟨q7 [0,1,2,3,4] [0,1,6,7,37,38,8,39,44,45,46] rfl,trivial⟩
     ·refine q9 hT ?_
      exact⟨n2 - 1,by omega,_,q7 [0,1,2,3,4] [0,1,6,7,37,38,8,39,44,45,46] rfl,k+1,IntKind.i64.wrap (j+1),by omega,by rw[y8 _ (by omega) (by omega)];omega,rfl⟩
    ·have h:=k0z (show decide (j<(((bx a1).length:Nat):Int))=false from h)
     rw[show k=q by omega]
     refine x6 ?_
     exact⟨q7 [0,1,2,3,4] [0,1,6,7,37,38,8,39] rfl,trivial⟩
   ·refine q9 hT ?_
    exact⟨2,by decide,_,q7 [0,1,2,3,4] [0,1,6,7,37,38,39] rfl,(.inr (.inr (.inl ⟨rfl,rfl⟩)))⟩
  ·refine q8 hT ?_
   refine z8 (z4 ?_)
   refine z5 ?_
   refine z7 ⟨⟨65,[(0,.p (.sl 1 (z2 [a0,a1,a2,a3]))),(1,.p (.sl 1 (z2 B))),(6,.p (.box F)),(7,.msl 0 1 0 4),(37,.p (.sl 1 (z2 [a0,a1,a2,a3]))),(38,i64 4),(8,i64 2),(39,i64 2)]⟩,[.cells z0 [.msl 1 1 0 c,.msl 2 1 0 c,.msl 3 1 0 c,.msl 4 1 0 c],.row z1 1 (bx (x9 a0 B c q)),.row z1 1 (bx (x9 a1 B c q)),.row z1 1 (bx (x9 a2 B c q)),.row z1 1 (bx (x9 a3 B c 0))]⟩ True (z3 ?_) (fun _=>?_)
   ·refine q8 hT ?_
    refine⟨by decide,w9 rfl ?_⟩
    refine q8 hT ?_
    refine z3 ?_
    refine y7 (fun n s=>∃ (k:Nat) (j:Int),n+k=q∧j=k∧s=⟨⟨65,[(0,.p (.sl 1 (z2 [a0,a1,a2,a3]))),(1,.p (.sl 1 (z2 B))),(6,.p (.box F)),(7,.msl 0 1 0 4),(37,.p (.sl 1 (z2 [a0,a1,a2,a3]))),(38,i64 4),(8,i64 2),(39,i64 2),(44,bA a2),(45,i64 (bx a2).length),(46,i64 j)]⟩,[.cells z0 [.msl 1 1 0 c,.msl 2 1 0 c,.msl 3 1 0 c,.msl 4 1 0 c],.row z1 1 (bx (x9 a0 B c q)),.row z1 1 (bx (x9 a1 B c q)),.row z1 1 (bx (x9 a2 B c k)),.row z1 1 (bx (x9 a3 B c 0))]⟩) q ⟨⟨65,_⟩,_⟩ (q7 [0,1,2,3,4] [0,1,6,7,37,38,8,39,44,45,46] rfl) ⟨0,0,by omega,rfl,rfl⟩ ?_
    rintro n2 s ⟨k,j,hnk,hj,rfl⟩
    refine q8 hT ?_
    refine z8 (z4 (y4 (fun h=>?_) (fun h=>?_)))
    ·have h:=k0q (show decide (j<(((bx a2).length:Nat):Int))=true from h)
     have hk:k<a2.length:=by omega
     have hkB:k<B.length:=by omega
     refine z5 ?_
     have hxa:=k0x hk
     have hxb:=k0x hkB
     have hst:=W3 c hxa hxb
     have hlb:=hBc _ (k1x hkB)
     generalize a2[k]=x at hxa hst
     generalize B[k]=b at hxb hst hlb
     have hxp:(bx a2)[j.toNat]?=some [u8 x]:=by rw[hj,k0v];exact u7 hxa
     have hbp:(z2 B)[j.toNat]?=some [bP b]:=by rw[hj,k0v];exact Q0 hxb
     have hml:=Q8 (B:=B) a2 hBc (k:=k) (by omega)
     have w:=wadd (x9 a2 B c k) b x hml hlb
     rw[hml,← hst]at w
     refine z7 ⟨⟨65,[(0,.p (.sl 1 (z2 [a0,a1,a2,a3]))),(1,.p (.sl 1 (z2 B))),(6,.p (.box F)),(7,.msl 0 1 0 4),(37,.p (.sl 1 (z2 [a0,a1,a2,a3]))),(38,i64 4),(8,i64 2),(39,i64 2),(44,bA a2),(45,i64 (bx a2).length),(46,i64 j)]⟩,[.cells z0 [.msl 1 1 0 c,.msl 2 1 0 c,.msl 3 1 0 c,.msl 4 1 0 c],.row z1 1 (bx (x9 a0 B c q)),.row z1 1 (bx (x9 a1 B c q)),.row z1 1 (bx (x9 a2 B c (k+1))),.row z1 1 (bx (x9 a3 B c 0))]⟩ True (z3 (q8 hT ?_)) (fun _=>?_)
     ·refine⟨by omega,w9 hxp ?_⟩
      refine v7 [10] [] hT y5 (by rfl) ?_
      refine⟨by decide,?_⟩
      refine⟨by omega,w9 hbp ?_⟩
      refine⟨_,_,Q7 [3] w rfl rfl rfl,?_⟩
      repeat first|refine⟨rfl,?_⟩|refine⟨⟨by decide,rfl⟩,?_⟩|refine⟨⟨by omega,w9 hbp rfl⟩,?_⟩
      exact⟨q7 [0,1,2,3,4] [0,1,6,7,37,38,8,39,44,45,46] rfl,trivial⟩
     ·refine q9 hT ?_
      exact⟨n2 - 1,by omega,_,q7 [0,1,2,3,4] [0,1,6,7,37,38,8,39,44,45,46] rfl,k+1,IntKind.i64.wrap (j+1),by omega,by rw[y8 _ (by omega) (by omega)];omega,rfl⟩
    ·have h:=k0z (show decide (j<(((bx a2).length:Nat):Int))=false from h)
     rw[show k=q by omega]
     refine x6 ?_
     exact⟨q7 [0,1,2,3,4] [0,1,6,7,37,38,8,39] rfl,trivial⟩
   ·refine q9 hT ?_
    exact⟨1,by decide,_,q7 [0,1,2,3,4] [0,1,6,7,37,38,39] rfl,(.inr (.inr (.inr (.inl ⟨rfl,rfl⟩))))⟩
  ·refine q8 hT ?_
   refine z8 (z4 ?_)
   refine z5 ?_
   refine z7 ⟨⟨65,[(0,.p (.sl 1 (z2 [a0,a1,a2,a3]))),(1,.p (.sl 1 (z2 B))),(6,.p (.box F)),(7,.msl 0 1 0 4),(37,.p (.sl 1 (z2 [a0,a1,a2,a3]))),(38,i64 4),(8,i64 3),(39,i64 3)]⟩,[.cells z0 [.msl 1 1 0 c,.msl 2 1 0 c,.msl 3 1 0 c,.msl 4 1 0 c],.row z1 1 (bx (x9 a0 B c q)),.row z1 1 (bx (x9 a1 B c q)),.row z1 1 (bx (x9 a2 B c q)),.row z1 1 (bx (x9 a3 B c q))]⟩ True (z3 ?_) (fun _=>?_)
   ·refine q8 hT ?_
    refine⟨by decide,w9 rfl ?_⟩
    refine q8 hT ?_
    refine z3 ?_
    refine y7 (fun n s=>∃ (k:Nat) (j:Int),n+k=q∧j=k∧s=⟨⟨65,[(0,.p (.sl 1 (z2 [a0,a1,a2,a3]))),(1,.p (.sl 1 (z2 B))),(6,.p (.box F)),(7,.msl 0 1 0 4),(37,.p (.sl 1 (z2 [a0,a1,a2,a3]))),(38,i64 4),(8,i64 3),(39,i64 3),(44,bA a3),(45,i64 (bx a3).length),(46,i64 j)]⟩,[.cells z0 [.msl 1 1 0 c,.msl 2 1 0 c,.msl 3 1 0 c,.msl 4 1 0 c],.row z1 1 (bx (x9 a0 B c q)),.row z1 1 (bx (x9 a1 B c q)),.row z1 1 (bx (x9 a2 B c q)),.row z1 1 (bx (x9 a3 B c k))]⟩) q ⟨⟨65,_⟩,_⟩ (q7 [0,1,2,3,4] [0,1,6,7,37,38,8,39,44,45,46] rfl) ⟨0,0,by omega,rfl,rfl⟩ ?_
    rintro n2 s ⟨k,j,hnk,hj,rfl⟩
    refine q8 hT ?_
    refine z8 (z4 (y4 (fun h=>?_) (fun h=>?_)))
    ·have h:=k0q (show decide (j<(((bx a3).length:Nat):Int))=true from h)
     have hk:k<a3.length:=by omega
     have hkB:k<B.length:=by omega
     refine z5 ?_
     have hxa:=k0x hk
     have hxb:=k0x hkB
     have hst:=W3 c hxa hxb
     have hlb:=hBc _ (k1x hkB)
     generalize a3[k]=x at hxa hst
     generalize B[k]=b at hxb hst hlb
     have hxp:(bx a3)[j.toNat]?=some [u8 x]:=by rw[hj,k0v];exact u7 hxa
     have hbp:(z2 B)[j.toNat]?=some [bP b]:=by rw[hj,k0v];exact Q0 hxb
     have hml:=Q8 (B:=B) a3 hBc (k:=k) (by omega)
     have w:=wadd (x9 a3 B c k) b x hml hlb
     rw[hml,← hst]at w
     refine z7 ⟨⟨65,[(0,.p (.sl 1 (z2 [a0,a1,a2,a3]))),(1,.p (.sl 1 (z2 B))),(6,.p (.box F)),(7,.msl 0 1 0 4),(37,.p (.sl 1 (z2 [a0,a1,a2,a3]))),(38,i64 4),(8,i64 3),(39,i64 3),(44,bA a3),(45,i64 (bx a3).length),(46,i64 j)]⟩,[.cells z0 [.msl 1 1 0 c,.msl 2 1 0 c,.msl 3 1 0 c,.msl 4 1 0 c],.row z1 1 (bx (x9 a0 B c q)),.row z1 1 (bx (x9 a1 B c q)),.row z1 1 (bx (x9 a2 B c q)),.row z1 1 (bx (x9 a3 B c (k+1)))]⟩ True (z3 (q8 hT ?_)) (fun _=>?_)
     ·refine⟨by omega,w9 hxp ?_⟩
      refine v7 [10] [] hT y5 (by rfl) ?_
      refine⟨by decide,?_⟩
      refine⟨by omega,w9 hbp ?_⟩
      refine⟨_,_,Q7 [4] w rfl rfl rfl,?_⟩
      repeat first|refine⟨rfl,?_⟩|refine⟨⟨by decide,rfl⟩,?_⟩|refine⟨⟨by omega,w9 hbp rfl⟩,?_⟩
      exact⟨q7 [0,1,2,3,4] [0,1,6,7,37,38,8,39,44,45,46] rfl,trivial⟩
     ·refine q9 hT ?_
      exact⟨n2 - 1,by omega,_,q7 [0,1,2,3,4] [0,1,6,7,37,38,8,39,44,45,46] rfl,k+1,IntKind.i64.wrap (j+1),by omega,by rw[y8 _ (by omega) (by omega)];omega,rfl⟩
    ·have h:=k0z (show decide (j<(((bx a3).length:Nat):Int))=false from h)
     rw[show k=q by omega]
     refine x6 ?_
     exact⟨q7 [0,1,2,3,4] [0,1,6,7,37,38,8,39] rfl,trivial⟩
   ·refine q9 hT ?_
    exact⟨0,by decide,_,q7 [0,1,2,3,4] [0,1,6,7,37,38,39] rfl,(.inr (.inr (.inr (.inr ⟨rfl,rfl⟩))))⟩
  ·refine q8 hT ?_
   refine z8 (z4 ?_)
   refine x6 ?_
   exact⟨q7 [0,1,2,3,4] [7] rfl,trivial⟩
 refine q8 hT ?_
 refine y9 ?_
 exact z9 [0,1,2,3,4] ⟨rfl,rfl⟩ rfl
theorem v2f (a0 a1 a2 a3:z6)(B:List z6)(q c:Nat)(q1:1≤q)(q2:q≤64)(c1:1≤c)(c2:c≤4096)(hA:∀ s∈([a0,a1,a2,a3]:List z6),s.length=q)(hB:B.length=q)(hBc:∀ s∈B,s.length=c) :
 AF Tryz.prog J6 [.p (.sl 1 (z2 [a0,a1,a2,a3])),.p (.sl 1 (z2 B))] [] (v8 (.tup [.msl 0 1 0 4,i64 0]) [.row z0 1 (z2 [x9 a0 B c q,x9 a1 B c q,x9 a2 B c q,x9 a3 B c q])]):=by
 refine y7e (M:=fun i=>([x9 a0 B c q,x9 a1 B c q,x9 a2 B c q,x9 a3 B c q]:List z6).getD i []) (n:=c) (fun i hi=>?_) (v2e a0 a1 a2 a3 B q c q1 q2 c1 c2 hA hB hBc)
 have:i=0∨i=1∨i=2∨i=3:=by omega
 rcases this with rfl|rfl|rfl|rfl <;> exact Q8 _ hBc (by omega)
abbrev Z3:Type:=Nat→z6
def swp (M:Z3)(c p:Nat):Z3:=fun i=>match Nat.beq i c with
 |true=>M p
 |false=>match Nat.beq i p with|true=>M c|false=>M i
def U5 (M:Z3)(c:Nat)(v:z6):Z3:=fun i=>match Nat.beq i c with|true=>v|false=>M i
def q7r (M:Z3)(c:Nat):Nat→Nat→Int
 |0,_=>-1
 |n+1,i=>match (M i).getD c 0 != 0 with|true=>i|false=>q7r M c n (i+1)
def q1f (M:Z3)(r c:Nat):Int:=q7r M c (r - c) c
def q0x (c k:Nat)(G:Z3 × Z3):Z3 × Z3:=match !Nat.beq k c&&(G.1 k).getD c 0 != 0 with
 |true=>(U5 G.1 k (J4 (G.1 k) (G.1 c) ((G.1 k).getD c 0)),U5 G.2 k (J4 (G.2 k) (G.2 c) ((G.1 k).getD c 0)))
 |false=>G
def elS (c:Nat)(G:Z3 × Z3):Nat→Z3 × Z3
 |0=>G
 |k+1=>q0x c k (elS c G k)
def q8v (r c:Nat)(G:Z3 × Z3):Z3 × Z3:=(swp G.1 c (q1f G.1 r c).toNat,swp G.2 c (q1f G.1 r c).toNat)
def z3v (c:Nat)(G:Z3 × Z3):Z3 × Z3:=(U5 G.1 c (q0w (Gf.inv ((G.1 c).getD c 0)) (G.1 c)),U5 G.2 c (q0w (Gf.inv ((G.1 c).getD c 0)) (G.2 c)))
def q2e (r c:Nat)(G:Z3 × Z3):Z3 × Z3:=elS c (z3v c (q8v r c G)) r
def gs0 (r:Nat)(L:List z6):Z3 × Z3:=(fun i=>L.getD i [],v9 idA r)
def gs (r:Nat)(L:List z6):Nat→Z3 × Z3
 |0=>gs0 r L
 |c+1=>q2e r c (gs r L c)
def y0q (r:Nat)(L:List z6):Bool:=(List.range r).all fun c=>decide (0≤q1f (gs r L c).1 r c)
def V2 (r:Nat)(M:Z3):Prop:=∀ i,i<r→(M i).length=r
theorem q1v {r:Nat}{M:Z3}(h:V2 r M){c p:Nat}(hc:c<r)(hp:p<r):V2 r (swp M c p):=fun i hi=>by
 unfold swp
 split
 ·exact h p hp
 ·split
  ·exact h c hc
  ·exact h i hi
theorem q0u {r:Nat}{M:Z3}(h:V2 r M)(c:Nat){v:z6}(hv:v.length=r):V2 r (U5 M c v):=fun i hi=>by
 unfold U5
 split
 ·exact hv
 ·exact h i hi
theorem q0c (x:UInt8)(t:z6):(q0w x t).length=t.length:=k1y _
theorem w6p {r c k:Nat}(hc:c<r)(hk:k<r){G:Z3 × Z3}(h1:V2 r G.1)(h2:V2 r G.2):V2 r (q0x c k G).1∧V2 r (q0x c k G).2:=by
 unfold q0x
 split
 ·exact⟨q0u h1 k (by rw[q1t _ (by rw[h1 k hk,h1 c hc]),h1 k hk]),q0u h2 k (by rw[q1t _ (by rw[h2 k hk,h2 c hc]),h2 k hk])⟩
 ·exact⟨h1,h2⟩
theorem z0p {r c:Nat}(hc:c<r){G:Z3 × Z3}(h1:V2 r G.1)(h2:V2 r G.2):∀ k,k≤r→V2 r (elS c G k).1∧V2 r (elS c G k).2
 |0,_=>⟨h1,h2⟩
 |k+1,hk=>by
  obtain⟨a,b⟩:=z0p hc h1 h2 k (by omega)
  exact w6p hc (by omega) a b
theorem w9c (M:Z3)(c:Nat):∀ n i,0≤q7r M c n i→∃ p:Nat,q7r M c n i=p∧i≤p∧p<i+n∧(M p).getD c 0≠0
 |0,i,h=>absurd h (by show ¬ (0:Int)≤-1;decide)
 |n+1,i,h=>by
  unfold q7r at h ⊢
  cases hm:(M i).getD c 0 != 0 with
  |true=>exact⟨i,rfl,k1w _,by omega,bne_iff_ne.mp hm⟩
  |false=>
   rw[hm]at h
   obtain⟨p,h1,h2,h3,h4⟩:=w9c M c n (i+1) h
   exact⟨p,h1,by omega,by omega,h4⟩
theorem z3w {M:Z3}{r c:Nat}(hc:c<r)(h:0≤q1f M r c):∃ p:Nat,q1f M r c=p∧c≤p∧p<r∧(M p).getD c 0≠0:=by
 obtain⟨p,h1,h2,h3,h4⟩:=w9c M c (r - c) c h
 exact⟨p,h1,h2,by omega,h4⟩
theorem z8d {r:Nat}{L:List z6}(h:y0q r L=true){c:Nat}(hc:c<r):0≤q1f (gs r L c).1 r c:=by
 unfold y0q at h
 exact k0q (List.all_eq_true.mp h c (List.mem_range.mpr hc))
theorem y0r {r:Nat}{L:List z6}(hok:y0q r L=true)(hL:L.length=r)(hr:∀ s∈L,s.length=r):∀ c,c≤r→V2 r (gs r L c).1∧V2 r (gs r L c).2
 |0,_=>by
  refine⟨fun i hi=>?_,fun i _=>by show (v9 idA r i).length=r;unfold v9;rw[k1y,k3q]⟩
  show (L.getD i []).length=r
  rw[k0w,k0x (by omega)]
  exact hr _ (k1x _)
 |c+1,hc=>by
  obtain⟨a,b⟩:=y0r hok hL hr c (by omega)
  obtain⟨p,p1,_,p3,_⟩:=z3w (by omega) (z8d hok (c:=c) (by omega))
  have e:(q1f (gs r L c).1 r c).toNat=p:=by rw[p1];exact k0v p
  have s1:V2 r (q8v r c (gs r L c)).1:=by show V2 r (swp _ c (q1f _ r c).toNat);rw[e];exact q1v a (by omega) p3
  have s2:V2 r (q8v r c (gs r L c)).2:=by show V2 r (swp _ c (q1f _ r c).toNat);rw[e];exact q1v b (by omega) p3
  exact z0p (by omega) (q0u s1 c (by rw[q0c];exact s1 c (by omega))) (q0u s2 c (by rw[q0c];exact s2 c (by omega))) r (k1w _)
theorem Q3 {l:z6}{c:Nat}(h:c<l.length):l[c]?=some (l.getD c 0):=by rw[k0w,k0x h];rfl
theorem w6q (M:Z3)(hM:V2 1 M)(c:Nat)(hc:c<1):AFm Tryz.prog 2 q8e [.msl 0 1 0 1,i64 c] [.cells z0 [.msl 1 1 0 1],.row z1 1 (bx (M 0))] (v8 (i64 (q1f M 1 c)) [.cells z0 [.msl 1 1 0 1],.row z1 1 (bx (M 0))]):=by
 refine AFm.mono (R:=fun r H'=>∃ z,z=q1f M 1 c∧r=i64 z∧H'=[.cells z0 [.msl 1 1 0 1],.row z1 1 (bx (M 0))]) ?_ (by rintro r H' ⟨z,rfl,rfl,rfl⟩;exact⟨rfl,rfl⟩)
 have e0:q1f M 1 c=q7r M c (1 - c) c:=rfl
 generalize q1f M 1 c=Z at e0
 refine Q5 2 hT q8f rfl rfl q8g rfl rfl ?_
 refine q8 hT ?_
 refine z7 ⟨⟨22,[]⟩,[.cells z0 [.msl 1 1 0 1],.row z1 1 (bx (M 0))]⟩ (Z = -1) (q8 hT ?_) (fun hZ=>?_)
 ·refine z3 ?_
  refine y7 (fun n s=>∃ (k:Nat) (j:Int),n+k=1∧j=k∧Z=q7r M c (1 - k) k∧s=⟨⟨22,[(0,.msl 0 1 0 1),(1,i64 c),(5,i64 j)]⟩,[.cells z0 [.msl 1 1 0 1],.row z1 1 (bx (M 0))]⟩) (1 - c) ⟨⟨22,_⟩,_⟩ (q7 [0,1] [0,1,5] rfl) ⟨c,c,by omega,rfl,e0,rfl⟩ ?_
  rintro n s ⟨k,j,hnk,hj,hz,rfl⟩
  refine z8 (q8 hT ?_)
  refine z4 (y4 (fun h=>?_) (fun h=>?_))
  ·have h:=k0q (show decide (j<((1:Nat):Int))=true from h)
   have hk:k<1:=by omega
   refine z5 ?_
   have hzs:q7r M c (1 - k) k=match (M k).getD c 0 != 0 with|true=>(k:Int)|false=>q7r M c (1 - (k+1)) (k+1):=by
    rw[show 1 - k=(1 - (k+1))+1 by omega];rfl
   rw[hzs]at hz
   have hg:=Q3 (l:=M k) (c:=c) (by rw[hM k hk];exact hc)
   have hlt:=((M k).getD c 0).toNat_lt
   generalize hv:(M k).getD c 0=v at hg hz hlt
   have hgx:(bx (M k))[0+((c:Nat):Int).toNat]?=some [u8 v]:=by rw[k0v,Nat.zero_add];exact u7 hg
   refine z7 ⟨⟨22,[(0,.msl 0 1 0 1),(1,i64 c),(5,i64 j)]⟩,[.cells z0 [.msl 1 1 0 1],.row z1 1 (bx (M 0))]⟩ (v=0) (z3 (q8 hT ?_)) (fun hv0=>?_)
   ·subst hj
    have hk4:k=0:=by omega
    rcases hk4 with rfl
    all_goals
     refine⟨by decide,?_⟩
     refine⟨⟨by omega,by omega⟩,?_⟩
     refine w9 hgx ?_
     refine z4 (y4 (fun h=>?_) (fun h=>?_))
     ·have h:(((v.toNat:Nat):Int) != 0)=true:=h
      rw[bne_iff_ne]at h
      have hne:v≠0:=fun e=>h (by rw[e];rfl)
      rw[bne_iff_ne.mpr hne]at hz
      refine q8 hT ?_
      refine y9 ?_
      exact z9 [0,1] ⟨_,hz.symm,rfl,rfl⟩ rfl
     ·have h:(((v.toNat:Nat):Int) != 0)=false:=h
      rw[bne_eq_false_iff_eq]at h
      exact z5 ⟨q7 [0,1] [0,1,5] rfl,UInt8.toNat_inj.mp (by show v.toNat=0;omega)⟩
   ·rw[hv0]at hz
    refine q9 hT ?_
    exact⟨n - 1,by omega,_,q7 [0,1] [0,1,5] rfl,k+1,IntKind.i64.wrap (j+1),by omega,by rw[y8 _ (by omega) (by omega)];omega,hz,rfl⟩
  ·have h:=k0z (show decide (j<((1:Nat):Int))=false from h)
   rw[show 1 - k=0 by omega]at hz
   refine x6 ?_
   exact⟨q7 [0,1] [] rfl,hz⟩
 refine q8 hT ?_
 refine y9 ?_
 exact z9 [0,1] ⟨_,hZ.symm,rfl,rfl⟩ rfl
theorem w6r (M:Z3)(hM:V2 2 M)(c:Nat)(hc:c<2):AFm Tryz.prog 3 q8e [.msl 0 1 0 2,i64 c] [.cells z0 [.msl 1 1 0 2,.msl 2 1 0 2],.row z1 1 (bx (M 0)),.row z1 1 (bx (M 1))] (v8 (i64 (q1f M 2 c)) [.cells z0 [.msl 1 1 0 2,.msl 2 1 0 2],.row z1 1 (bx (M 0)),.row z1 1 (bx (M 1))]):=by
 refine AFm.mono (R:=fun r H'=>∃ z,z=q1f M 2 c∧r=i64 z∧H'=[.cells z0 [.msl 1 1 0 2,.msl 2 1 0 2],.row z1 1 (bx (M 0)),.row z1 1 (bx (M 1))]) ?_ (by rintro r H' ⟨z,rfl,rfl,rfl⟩;exact⟨rfl,rfl⟩)
 have e0:q1f M 2 c=q7r M c (2 - c) c:=rfl
 generalize q1f M 2 c=Z at e0
 refine Q5 3 hT q8f rfl rfl q8g rfl rfl ?_
 refine q8 hT ?_
 refine z7 ⟨⟨22,[]⟩,[.cells z0 [.msl 1 1 0 2,.msl 2 1 0 2],.row z1 1 (bx (M 0)),.row z1 1 (bx (M 1))]⟩ (Z = -1) (q8 hT ?_) (fun hZ=>?_)
 ·refine z3 ?_
  refine y7 (fun n s=>∃ (k:Nat) (j:Int),n+k=2∧j=k∧Z=q7r M c (2 - k) k∧s=⟨⟨22,[(0,.msl 0 1 0 2),(1,i64 c),(5,i64 j)]⟩,[.cells z0 [.msl 1 1 0 2,.msl 2 1 0 2],.row z1 1 (bx (M 0)),.row z1 1 (bx (M 1))]⟩) (2 - c) ⟨⟨22,_⟩,_⟩ (q7 [0,1,2] [0,1,5] rfl) ⟨c,c,by omega,rfl,e0,rfl⟩ ?_
  rintro n s ⟨k,j,hnk,hj,hz,rfl⟩
  refine z8 (q8 hT ?_)
  refine z4 (y4 (fun h=>?_) (fun h=>?_))
  ·have h:=k0q (show decide (j<((2:Nat):Int))=true from h)
   have hk:k<2:=by omega
   refine z5 ?_
   have hzs:q7r M c (2 - k) k=match (M k).getD c 0 != 0 with|true=>(k:Int)|false=>q7r M c (2 - (k+1)) (k+1):=by
    rw[show 2 - k=(2 - (k+1))+1 by omega];rfl
   rw[hzs]at hz
   have hg:=Q3 (l:=M k) (c:=c) (by rw[hM k hk];exact hc)
   have hlt:=((M k).getD c 0).toNat_lt
   generalize hv:(M k).getD c 0=v at hg hz hlt
   have hgx:(bx (M k))[0+((c:Nat):Int).toNat]?=some [u8 v]:=by rw[k0v,Nat.zero_add];exact u7 hg
   refine z7 ⟨⟨22,[(0,.msl 0 1 0 2),(1,i64 c),(5,i64 j)]⟩,[.cells z0 [.msl 1 1 0 2,.msl 2 1 0 2],.row z1 1 (bx (M 0)),.row z1 1 (bx (M 1))]⟩ (v=0) (z3 (q8 hT ?_)) (fun hv0=>?_)
   ·subst hj
    have hk4:k=0∨k=1:=by omega
    rcases hk4 with rfl|rfl
    all_goals
     refine⟨by decide,?_⟩
     refine⟨⟨by omega,by omega⟩,?_⟩
     refine w9 hgx ?_
     refine z4 (y4 (fun h=>?_) (fun h=>?_))
     ·have h:(((v.toNat:Nat):Int) != 0)=true:=h
      rw[bne_iff_ne]at h
      have hne:v≠0:=fun e=>h (by rw[e];rfl)
      rw[bne_iff_ne.mpr hne]at hz
      refine q8 hT ?_
      refine y9 ?_
      exact z9 [0,1,2] ⟨_,hz.symm,rfl,rfl⟩ rfl
     ·have h:(((v.toNat:Nat):Int) != 0)=false:=h
      rw[bne_eq_false_iff_eq]at h
      exact z5 ⟨q7 [0,1,2] [0,1,5] rfl,UInt8.toNat_inj.mp (by show v.toNat=0;omega)⟩
   ·rw[hv0]at hz
    refine q9 hT ?_
    exact⟨n - 1,by omega,_,q7 [0,1,2] [0,1,5] rfl,k+1,IntKind.i64.wrap (j+1),by omega,by rw[y8 _ (by omega) (by omega)];omega,hz,rfl⟩
  ·have h:=k0z (show decide (j<((2:Nat):Int))=false from h)
   rw[show 2 - k=0 by omega]at hz
   refine x6 ?_
   exact⟨q7 [0,1,2] [] rfl,hz⟩
 refine q8 hT ?_
 refine y9 ?_
 exact z9 [0,1,2] ⟨_,hZ.symm,rfl,rfl⟩ rfl
theorem w6s (M:Z3)(hM:V2 3 M)(c:Nat)(hc:c<3):AFm Tryz.prog 4 q8e [.msl 0 1 0 3,i64 c] [.cells z0 [.msl 1 1 0 3,.msl 2 1 0 3,.msl 3 1 0 3],.row z1 1 (bx (M 0)),.row z1 1 (bx (M 1)),.row z1 1 (bx (M 2))] (v8 (i64 (q1f M 3 c)) [.cells z0 [.msl 1 1 0 3,.msl 2 1 0 3,.msl 3 1 0 3],.row z1 1 (bx (M 0)),.row z1 1 (bx (M 1)),.row z1 1 (bx (M 2))]):=by
 refine AFm.mono (R:=fun r H'=>∃ z,z=q1f M 3 c∧r=i64 z∧H'=[.cells z0 [.msl 1 1 0 3,.msl 2 1 0 3,.msl 3 1 0 3],.row z1 1 (bx (M 0)),.row z1 1 (bx (M 1)),.row z1 1 (bx (M 2))]) ?_ (by rintro r H' ⟨z,rfl,rfl,rfl⟩;exact⟨rfl,rfl⟩)
 have e0:q1f M 3 c=q7r M c (3 - c) c:=rfl
 generalize q1f M 3 c=Z at e0
 refine Q5 4 hT q8f rfl rfl q8g rfl rfl ?_
 refine q8 hT ?_
 refine z7 ⟨⟨22,[]⟩,[.cells z0 [.msl 1 1 0 3,.msl 2 1 0 3,.msl 3 1 0 3],.row z1 1 (bx (M 0)),.row z1 1 (bx (M 1)),.row z1 1 (bx (M 2))]⟩ (Z = -1) (q8 hT ?_) (fun hZ=>?_)
 ·refine z3 ?_
  refine y7 (fun n s=>∃ (k:Nat) (j:Int),n+k=3∧j=k∧Z=q7r M c (3 - k) k∧s=⟨⟨22,[(0,.msl 0 1 0 3),(1,i64 c),(5,i64 j)]⟩,[.cells z0 [.msl 1 1 0 3,.msl 2 1 0 3,.msl 3 1 0 3],.row z1 1 (bx (M 0)),.row z1 1 (bx (M 1)),.row z1 1 (bx (M 2))]⟩) (3 - c) ⟨⟨22,_⟩,_⟩ (q7 [0,1,2,3] [0,1,5] rfl) ⟨c,c,by omega,rfl,e0,rfl⟩ ?_
  rintro n s ⟨k,j,hnk,hj,hz,rfl⟩
  refine z8 (q8 hT ?_)
  refine z4 (y4 (fun h=>?_) (fun h=>?_))
  ·have h:=k0q (show decide (j<((3:Nat):Int))=true from h)
   have hk:k<3:=by omega
   refine z5 ?_
   have hzs:q7r M c (3 - k) k=match (M k).getD c 0 != 0 with|true=>(k:Int)|false=>q7r M c (3 - (k+1)) (k+1):=by
    rw[show 3 - k=(3 - (k+1))+1 by omega];rfl
   rw[hzs]at hz
   have hg:=Q3 (l:=M k) (c:=c) (by rw[hM k hk];exact hc)
   have hlt:=((M k).getD c 0).toNat_lt
   generalize hv:(M k).getD c 0=v at hg hz hlt
   have hgx:(bx (M k))[0+((c:Nat):Int).toNat]?=some [u8 v]:=by rw[k0v,Nat.zero_add];exact u7 hg
   refine z7 ⟨⟨22,[(0,.msl 0 1 0 3),(1,i64 c),(5,i64 j)]⟩,[.cells z0 [.msl 1 1 0 3,.msl 2 1 0 3,.msl 3 1 0 3],.row z1 1 (bx (M 0)),.row z1 1 (bx (M 1)),.row z1 1 (bx (M 2))]⟩ (v=0) (z3 (q8 hT ?_)) (fun hv0=>?_)
   ·subst hj
    have hk4:k=0∨k=1∨k=2:=by omega
    rcases hk4 with rfl|rfl|rfl
    all_goals
     refine⟨by decide,?_⟩
     refine⟨⟨by omega,by omega⟩,?_⟩
     refine w9 hgx ?_
     refine z4 (y4 (fun h=>?_) (fun h=>?_))
     ·have h:(((v.toNat:Nat):Int) != 0)=true:=h
      rw[bne_iff_ne]at h
      have hne:v≠0:=fun e=>h (by rw[e];rfl)
      rw[bne_iff_ne.mpr hne]at hz
      refine q8 hT ?_
      refine y9 ?_
      exact z9 [0,1,2,3] ⟨_,hz.symm,rfl,rfl⟩ rfl
     ·have h:(((v.toNat:Nat):Int) != 0)=false:=h
      rw[bne_eq_false_iff_eq]at h
      exact z5 ⟨q7 [0,1,2,3] [0,1,5] rfl,UInt8.toNat_inj.mp (by show v.toNat=0;omega)⟩
   ·rw[hv0]at hz
    refine q9 hT ?_
    exact⟨n - 1,by omega,_,q7 [0,1,2,3] [0,1,5] rfl,k+1,IntKind.i64.wrap (j+1),by omega,by rw[y8 _ (by omega) (by omega)];omega,hz,rfl⟩
  ·have h:=k0z (show decide (j<((3:Nat):Int))=false from h)
   rw[show 3 - k=0 by omega]at hz
   refine x6 ?_
   exact⟨q7 [0,1,2,3] [] rfl,hz⟩
 refine q8 hT ?_
 refine y9 ?_
 exact z9 [0,1,2,3] ⟨_,hZ.symm,rfl,rfl⟩ rfl
theorem w6t (M:Z3)(hM:V2 4 M)(c:Nat)(hc:c<4):AFm Tryz.prog 5 q8e [.msl 0 1 0 4,i64 c] [.cells z0 [.msl 1 1 0 4,.msl 2 1 0 4,.msl 3 1 0 4,.msl 4 1 0 4],.row z1 1 (bx (M 0)),.row z1 1 (bx (M 1)),.row z1 1 (bx (M 2)),.row z1 1 (bx (M 3))] (v8 (i64 (q1f M 4 c)) [.cells z0 [.msl 1 1 0 4,.msl 2 1 0 4,.msl 3 1 0 4,.msl 4 1 0 4],.row z1 1 (bx (M 0)),.row z1 1 (bx (M 1)),.row z1 1 (bx (M 2)),.row z1 1 (bx (M 3))]):=by
 refine AFm.mono (R:=fun r H'=>∃ z,z=q1f M 4 c∧r=i64 z∧H'=[.cells z0 [.msl 1 1 0 4,.msl 2 1 0 4,.msl 3 1 0 4,.msl 4 1 0 4],.row z1 1 (bx (M 0)),.row z1 1 (bx (M 1)),.row z1 1 (bx (M 2)),.row z1 1 (bx (M 3))]) ?_ (by rintro r H' ⟨z,rfl,rfl,rfl⟩;exact⟨rfl,rfl⟩)
 have e0:q1f M 4 c=q7r M c (4 - c) c:=rfl
 generalize q1f M 4 c=Z at e0
 refine Q5 5 hT q8f rfl rfl q8g rfl rfl ?_
 refine q8 hT ?_
 refine z7 ⟨⟨22,[]⟩,[.cells z0 [.msl 1 1 0 4,.msl 2 1 0 4,.msl 3 1 0 4,.msl 4 1 0 4],.row z1 1 (bx (M 0)),.row z1 1 (bx (M 1)),.row z1 1 (bx (M 2)),.row z1 1 (bx (M 3))]⟩ (Z = -1) (q8 hT ?_) (fun hZ=>?_)
 ·refine z3 ?_
  refine y7 (fun n s=>∃ (k:Nat) (j:Int),n+k=4∧j=k∧Z=q7r M c (4 - k) k∧s=⟨⟨22,[(0,.msl 0 1 0 4),(1,i64 c),(5,i64 j)]⟩,[.cells z0 [.msl 1 1 0 4,.msl 2 1 0 4,.msl 3 1 0 4,.msl 4 1 0 4],.row z1 1 (bx (M 0)),.row z1 1 (bx (M 1)),.row z1 1 (bx (M 2)),.row z1 1 (bx (M 3))]⟩) (4 - c) ⟨⟨22,_⟩,_⟩ (q7 [0,1,2,3,4] [0,1,5] rfl) ⟨c,c,by omega,rfl,e0,rfl⟩ ?_
  rintro n s ⟨k,j,hnk,hj,hz,rfl⟩
  refine z8 (q8 hT ?_)
  refine z4 (y4 (fun h=>?_) (fun h=>?_))
  ·have h:=k0q (show decide (j<((4:Nat):Int))=true from h)
   have hk:k<4:=by omega
   refine z5 ?_
   have hzs:q7r M c (4 - k) k=match (M k).getD c 0 != 0 with|true=>(k:Int)|false=>q7r M c (4 - (k+1)) (k+1):=by
    rw[show 4 - k=(4 - (k+1))+1 by omega];rfl
   rw[hzs]at hz
   have hg:=Q3 (l:=M k) (c:=c) (by rw[hM k hk];exact hc)
   have hlt:=((M k).getD c 0).toNat_lt
   generalize hv:(M k).getD c 0=v at hg hz hlt
   have hgx:(bx (M k))[0+((c:Nat):Int).toNat]?=some [u8 v]:=by rw[k0v,Nat.zero_add];exact u7 hg
   refine z7 ⟨⟨22,[(0,.msl 0 1 0 4),(1,i64 c),(5,i64 j)]⟩,[.cells z0 [.msl 1 1 0 4,.msl 2 1 0 4,.msl 3 1 0 4,.msl 4 1 0 4],.row z1 1 (bx (M 0)),.row z1 1 (bx (M 1)),.row z1 1 (bx (M 2)),.row z1 1 (bx (M 3))]⟩ (v=0) (z3 (q8 hT ?_)) (fun hv0=>?_)
   ·subst hj
    have hk4:k=0∨k=1∨k=2∨k=3:=by omega
    rcases hk4 with rfl|rfl|rfl|rfl
    all_goals
     refine⟨by decide,?_⟩
     refine⟨⟨by omega,by omega⟩,?_⟩
     refine w9 hgx ?_
     refine z4 (y4 (fun h=>?_) (fun h=>?_))
     ·have h:(((v.toNat:Nat):Int) != 0)=true:=h
      rw[bne_iff_ne]at h
      have hne:v≠0:=fun e=>h (by rw[e];rfl)
      rw[bne_iff_ne.mpr hne]at hz
      refine q8 hT ?_
      refine y9 ?_
      exact z9 [0,1,2,3,4] ⟨_,hz.symm,rfl,rfl⟩ rfl
     ·have h:(((v.toNat:Nat):Int) != 0)=false:=h
      rw[bne_eq_false_iff_eq]at h
      exact z5 ⟨q7 [0,1,2,3,4] [0,1,5] rfl,UInt8.toNat_inj.mp (by show v.toNat=0;omega)⟩
   ·rw[hv0]at hz
    refine q9 hT ?_
    exact⟨n - 1,by omega,_,q7 [0,1,2,3,4] [0,1,5] rfl,k+1,IntKind.i64.wrap (j+1),by omega,by rw[y8 _ (by omega) (by omega)];omega,hz,rfl⟩
  ·have h:=k0z (show decide (j<((4:Nat):Int))=false from h)
   rw[show 4 - k=0 by omega]at hz
   refine x6 ?_
   exact⟨q7 [0,1,2,3,4] [] rfl,hz⟩
 refine q8 hT ?_
 refine y9 ?_
 exact z9 [0,1,2,3,4] ⟨_,hZ.symm,rfl,rfl⟩ rfl
end Go.Proofs.YtinfbclgkghgaaaGreat.AL
