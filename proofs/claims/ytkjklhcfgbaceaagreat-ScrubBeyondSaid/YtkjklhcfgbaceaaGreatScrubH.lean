/- A part of the proof. -/
import Derived.Laws.Strings
import Derived.Test.YtkjklhcfgbaceaaGreatScrubG
open Go.Proofs.Tryz renaming prog→k0q
open Option.some renaming inj→k0x
open List renaming getElem?_eq_getElem→k0w,getD_eq_getElem?_getD→k0v,getElem?_map→k1z,length_append→k1y,getElem_mem→k1w,length_replicate→k2z,length_take→k2u,take_add_one→k2t
open Int renaming toNat_natCast→k0u,natCast_nonneg→k2w
open Nat renaming le_refl→k1v,mul_le_mul_right→k2v
open Bool renaming and_eq_true→k1u
set_option maxRecDepth 20000
namespace Go.Proofs.YtkjklhcfgbaceaaGreat.AL
open Go Go.Proofs Go.Proofs.YtkjklhcfgbaceaaGreat.AL.Crc
def w9 (Ls:List x9):List (List PV):=Ls.map fun l=>[bP l]
theorem Y6 (Ls:List x9):(w9 Ls).length=Ls.length:=by simp[w9]
theorem Y5 {Ls:List x9}{i:Nat}{l:x9}(h:Ls[i]?=some l):(w9 Ls)[i]?=some [bP l]:=by rw[w9,k1z,h];rfl
theorem y7d (Ls:List x9)(h1:Ls.length≤1000)(h2:Ls.flatten.length≤1000000):AF k0q q6w [.p (.sl 1 (w9 Ls))] [] (Q9 (.msl 0 1 0 (bx Ls.flatten).length) [.row x6 1 (bx Ls.flatten)]):=by
 have sub:∀ i,(Ls.take i).flatten.length≤1000000:=fun i=>by
  refine Nat.le_trans ?_ h2
  conv=>rhs;rw[← List.take_append_drop i Ls,List.flatten_append,k1y]
  omega
 refine Q8 hT Tryz.func177 rfl rfl Tryz.ntmps177 rfl ?_
 refine y6 hT ?_
 refine y6 hT ?_
 refine Q4 (fun s1=>∃ n:Int,0≤n∧n≤1000000∧s1=⟨⟨36,[(0,.p (.sl 1 (w9 Ls))),(3,i64 n)]⟩,[]⟩) (y6 hT ?_) ?_
 ·refine x3 ?_
  refine Q3 (fun m s=>∃ (i:Nat) (j v:Int),m+i=Ls.length∧j=i∧v=((Ls.take i).flatten.length:Int)∧s=⟨⟨36,[(0,.p (.sl 1 (w9 Ls))),(3,i64 v),(9,.p (.sl 1 (w9 Ls))),(10,i64 Ls.length),(11,i64 j)]⟩,[]⟩) Ls.length ⟨⟨36,_⟩,[]⟩ (z8 [] [0,3,9,10,11] rfl) ⟨0,0,0,rfl,rfl,rfl,by rw[← Y6 Ls];rfl⟩ ?_
  rintro m s ⟨i,j,v,hmi,rfl,hv,rfl⟩
  have hs:=sub i
  refine y6 hT ?_
  refine u6 (y8 (u9 (fun h=>?_) (fun h=>?_)))
  ·have hi:i<Ls.length:=by
    have:=k0z (show decide ((i:Int)<(Ls.length:Int))=true from h)
    omega
   have hx:=k0w hi
   have htk:Ls.take (i+1)=Ls.take i++[Ls[i]]:=by rw[k2t,hx];rfl
   generalize Ls[i]=l at hx htk
   have hxp:(w9 Ls)[((i:Nat):Int).toNat]?=some [bP l]:=by rw[k0u];exact Y5 hx
   have hs2:=sub (i+1)
   have hfl:(Ls.take (i+1)).flatten.length=(Ls.take i).flatten.length+l.length:=by rw[htk,List.flatten_append,k1y];simp
   have hw:IntKind.i64.wrap (v+((bx l).length:Int))=((Ls.take (i+1)).flatten.length:Int):=by
    rw[hv,Z1,Q0 _ (by omega) (by omega)];omega
   refine x7 ?_
   refine u0 ⟨⟨36,[(0,.p (.sl 1 (w9 Ls))),(3,i64 ((Ls.take (i+1)).flatten.length:Int)),(9,.p (.sl 1 (w9 Ls))),(10,i64 Ls.length),(11,i64 i)]⟩,[]⟩ True (x3 (y6 hT ?_)) (fun _=>?_)
   ·refine⟨k2w _,Z2 hxp ?_⟩
    refine y6 hT ?_
    refine y6 hT ?_
    refine y8 (u9 (fun h3=>?_) (fun h3=>?_))
    ·have h3:decide (IntKind.i64.wrap (v+((bx l).length:Int))<0)=true:=h3
     have h3:=k0z h3
     rw[hw]at h3;omega
    ·refine x7 ?_
     rw[← hw]
     exact⟨z8 [] [0,3,9,10,11] rfl,trivial⟩
   ·refine y7 hT ?_
    refine⟨m - 1,by omega,_,z8 [] [0,3,9,10,11] rfl,i+1,IntKind.i64.wrap ((i:Int)+1),_,by omega,?_,rfl,rfl⟩
    rw[Q0 _ (by omega) (by omega)];rfl
  ·refine Q7 ?_
   exact⟨_,z8 [] [0,3] rfl,v,by omega,by omega,rfl⟩
 rintro _ ⟨n,n0,n1,rfl⟩
 refine y6 hT ?_
 refine Q1 (x7z n n0 n1) ?_
 refine u6 (y6 hT ?_)
 refine x3 ?_
 refine Q3 (fun m s=>∃ (i:Nat) (j:Int) (L:x9),m+i=Ls.length∧j=i∧L=(Ls.take i).flatten∧s=⟨⟨36,[(6,.msl 0 1 0 (bx L).length),(25,.p (.sl 1 (w9 Ls))),(26,i64 Ls.length),(27,i64 j)]⟩,[.row x6 1 (bx L)]⟩) Ls.length ⟨⟨36,_⟩,[_]⟩ (z8 [0] [6,25,26,27] rfl) ⟨0,0,[],rfl,rfl,rfl,by rw[← Y6 Ls];rfl⟩ ?_
 rintro m s ⟨i,j,L,hmi,rfl,hL,rfl⟩
 have hs:=sub i
 rw[← hL]at hs
 have hbL:=Z1 L
 refine y6 hT ?_
 refine u6 (y8 (u9 (fun h=>?_) (fun h=>?_)))
 ·have hi:i<Ls.length:=by
   have:=k0z (show decide ((i:Int)<(Ls.length:Int))=true from h)
   omega
  have hx:=k0w hi
  have htk:Ls.take (i+1)=Ls.take i++[Ls[i]]:=by rw[k2t,hx];rfl
  generalize Ls[i]=l at hx htk
  have hxp:(w9 Ls)[((i:Nat):Int).toNat]?=some [bP l]:=by rw[k0u];exact Y5 hx
  have hs2:=sub (i+1)
  have hfl:(Ls.take (i+1)).flatten=L++l:=by rw[htk,List.flatten_append,hL];simp
  rw[hfl,k1y]at hs2
  have hbl:=Z1 l
  refine x7 ?_
  refine u0 ⟨⟨36,[(6,.msl 0 1 0 (bx (L++l)).length),(25,.p (.sl 1 (w9 Ls))),(26,i64 Ls.length),(27,i64 i)]⟩,[.row x6 1 (bx (L++l))]⟩ True (x3 (y6 hT ?_)) (fun _=>?_)
  ·refine⟨k2w _,Z2 hxp ?_⟩
   refine y7 hT ?_
   refine⟨rfl,⟨?_,?_⟩,?_⟩
   ·show ((bx L).length+(bx l).length)*1≤140737488355328
    omega
   ·show (bx L).length+(bx l).length≤140737488355328
    omega
   rw[q3w]
   exact⟨z8 [1] [6,25,26,27] rfl,trivial⟩
  ·refine y7 hT ?_
   refine⟨m - 1,by omega,_,z8 [0] [6,25,26,27] rfl,i+1,IntKind.i64.wrap ((i:Int)+1),L++l,by omega,?_,hfl.symm,rfl⟩
   rw[Q0 _ (by omega) (by omega)];rfl
 ·have hi:¬ (i:Int)<(Ls.length:Int):=k0y h
  have hil:i=Ls.length:=by omega
  subst hil
  rw[List.take_length]at hL
  subst hL
  refine Q7 ?_
  refine y6 hT ?_
  refine u5 ?_
  exact x8 [0] ⟨rfl,rfl⟩ rfl
theorem y9m (Ls:List x9)(h1:Ls.length≤1000)(h2:Ls.flatten.length≤1000000):AF k0q q6w [.p (.sl 1 (w9 Ls))] [] (Q9 (bA Ls.flatten) []):=z3q (y7d Ls h1 h2) rfl
theorem v5c (l:x9)(hl:l.length≤900000):AF k0q w2j [bA l] [] (Q9 (bA (J5 l)) []):=by
 have w:=y9m [l,leB 4 (sum l).toNat] (by simp) (by simp[q0h];omega)
 have e:[l,leB 4 (sum l).toNat].flatten=J5 l:=by simp[J5]
 rw[e]at w
 refine Q8 hT Tryz.func137 rfl rfl Tryz.ntmps137 rfl ?_
 refine y6 hT ?_
 refine u6 (X6 (fun k=>Nat.beq 4 k) hT ?_)
 refine Q1 (x4d l (by omega)) ?_
 refine Q1 (x7u (sum l).toNat) ?_
 refine⟨⟨rfl,rfl⟩,?_⟩
 refine Q1 w ?_
 refine u5 ?_
 exact x8 [] ⟨rfl,rfl⟩ rfl
/-- Is the sum there? -/
def q3g (l:x9):Bool:=match decide (4≤l.length) with
 |true=>l.drop (l.length - 4)==leB 4 (sum (l.take (l.length - 4))).toNat
 |false=>false
theorem z1y (l:x9)(n:Nat):bx (l.drop n)=(bx l).drop n:=by rw[bx,bx,List.map_drop]
theorem z9s (l:x9)(n:Nat):bx (l.take n)=(bx l).take n:=by rw[bx,bx,List.map_take]
theorem w8k (l:x9)(hl:l.length≤1000000):AF k0q x7f [bA l] [] (Q9 (bl (q3g l)) []):=by
 have hbl:=Z1 l
 refine Q8 hT Tryz.func169 rfl rfl Tryz.ntmps169 rfl ?_
 refine y6 hT ?_
 have hw:IntKind.i64.wrap (((bx l).length:Int) - 4)=(l.length:Int) - 4:=by rw[hbl,Q0 _ (by omega) (by omega)]
 refine u0 ⟨⟨20,[(0,bA l),(3,i64 ((l.length:Int) - 4))]⟩,[]⟩ True (y7 hT ?_) (fun _=>?_)
 ·rw[← hw]
  exact⟨z8 [] [0,3] rfl,trivial⟩
 refine u6 ?_
 refine Z0 [] [] hT u7 (by rfl) ?_
 refine u9 (fun h=>?_) (fun h=>?_)
 ·have h:=k0z (show decide ((l.length:Int) - 4≥0)=true from h)
  have e1:((bx l).take ((l.length:Int) - 4).toNat).drop (0:Int).toNat=bx (l.take (l.length - 4)):=by
   rw[show ((l.length:Int) - 4).toNat=l.length - 4 by omega,z9s];rfl
  have e2:((bx l).take (((bx l).length:Int)).toNat).drop ((l.length:Int) - 4).toNat=bx (l.drop (l.length - 4)):=by
   rw[show ((l.length:Int) - 4).toNat=l.length - 4 by omega,k0u,List.take_length,z1y]
  have w1:AF k0q y1r [.p (.sl 1 (((bx l).take ((l.length:Int) - 4).toNat).drop (0:Int).toNat))] [] (Q9 (i64 ((sum (l.take (l.length - 4))).toNat:Int)) []):=by
   rw[e1];exact x4d _ (by rw[k2u];omega)
  have w3:AF k0q q7j [.p (.sl 1 (((bx l).take (((bx l).length:Int)).toNat).drop ((l.length:Int) - 4).toNat)),bA (leB 4 (sum (l.take (l.length - 4))).toNat)] [] (Q9 (bl (l.drop (l.length - 4)==leB 4 (sum (l.take (l.length - 4))).toNat)) []):=by
   rw[e2];exact x4f _ _ (by rw[List.length_drop];omega)
  have ew:q3g l=(l.drop (l.length - 4)==leB 4 (sum (l.take (l.length - 4))).toNat):=by unfold q3g;rw[k1t (show 4≤l.length by omega)]
  refine⟨⟨h,by omega,Int.le_refl _⟩,?_⟩
  refine⟨⟨Int.le_refl _,h,by omega⟩,?_⟩
  refine⟨_,Q5 w1 _ rfl rfl,?_⟩
  refine⟨_,Q5 (x7u _) _ rfl rfl,?_⟩
  refine⟨_,Q5 w3 _ rfl rfl,?_⟩
  refine u5 ?_
  rw[ew]
  exact x8 [] ⟨rfl,rfl⟩ rfl
 ·have h:=k0y (show decide ((l.length:Int) - 4≥0)=false from h)
  have ew:q3g l=false:=by unfold q3g;rw[k1s (by omega)]
  refine u5 ?_
  rw[ew]
  exact x8 [] ⟨rfl,rfl⟩ rfl
theorem ixg {l:List Int}{i:Nat}{c:Int}(h:l[i]?=some c):(ix l)[i]?=some [.raw (.int .i64 c)]:=by rw[ix,k1z,h];rfl
theorem ixl (l:List Int):(ix l).length=l.length:=by simp[ix]
def X2 (n:Int):Bool:=decide (0≤n)&&decide (n≤4294967295)
theorem x8a (l:List Int)(hl:l.length≤1000000):AF k0q y9i [.p (.sl 1 (ix l))] [] (Q9 (bl (l.all X2)) []):=by
 refine Q8 hT Tryz.func176 rfl rfl Tryz.ntmps176 rfl ?_
 refine y6 hT ?_
 refine u0 ⟨⟨18,[]⟩,[]⟩ (l.all X2=true) (y6 hT ?_) ?_
 ·refine x3 ?_
  refine Q3 (fun n s=>∃ (i:Nat) (j:Int),n+i=l.length∧j=i∧(l.take i).all X2=true∧s=⟨⟨18,[(5,.p (.sl 1 (ix l))),(6,i64 l.length),(7,i64 j)]⟩,[]⟩) l.length ⟨⟨18,_⟩,[]⟩ (z8 [] [5,6,7] rfl) ⟨0,0,rfl,rfl,rfl,by rw[← ixl l];rfl⟩ ?_
  rintro n s ⟨i,j,hni,rfl,ht,rfl⟩
  refine y6 hT ?_
  refine u6 (y8 (u9 (fun h=>?_) (fun h=>?_)))
  ·have hi:i<l.length:=by
    have:=k0z (show decide ((i:Int)<(l.length:Int))=true from h)
    omega
   have hx:=k0w hi
   have hmem:=k1w hi
   have htk:l.take (i+1)=l.take i++[l[i]]:=by rw[k2t,hx];rfl
   generalize l[i]=c at hx htk hmem
   have hxp:(ix l)[((i:Nat):Int).toNat]?=some [.raw (.int .i64 c)]:=by rw[k0u];exact ixg hx
   have bad:X2 c=false→l.all X2=false:=fun h=>by
    rw[List.all_eq_false];exact⟨c,hmem,by rw[h];simp⟩
   refine x7 ?_
   refine u0 ⟨⟨18,[(5,.p (.sl 1 (ix l))),(6,i64 l.length),(7,i64 i)]⟩,[]⟩ (X2 c=true) (x3 (y6 hT ?_)) ?_
   ·refine⟨k2w _,Z2 hxp ?_⟩
    refine y6 hT ?_
    refine u9 (fun h2=>?_) (fun h2=>?_)
    ·have h2:=k0z (show decide (c<0)=true from h2)
     refine y8 ?_
     refine y6 hT ?_
     refine u5 ?_
     rw[bad (by unfold X2;rw[k1s (by omega)];rfl)]
     exact x8 [] ⟨rfl,rfl⟩ rfl
    ·have h2:=k0y (show decide (c<0)=false from h2)
     refine y8 (u9 (fun h3=>?_) (fun h3=>?_))
     ·have h3:=k0z (show decide (c > 4294967295)=true from h3)
      refine y6 hT ?_
      refine u5 ?_
      rw[bad (by unfold X2;rw[k1s (show ¬ c≤4294967295 by omega),Bool.and_false])]
      exact x8 [] ⟨rfl,rfl⟩ rfl
     ·have h3:=k0y (show decide (c > 4294967295)=false from h3)
      exact x7 ⟨z8 [] [5,6,7] rfl,by unfold X2;rw[k1t (show 0≤c by omega),k1t (show c≤4294967295 by omega)];rfl⟩
   ·intro hc
    refine y7 hT ?_
    refine⟨n - 1,by omega,_,z8 [] [5,6,7] rfl,i+1,IntKind.i64.wrap ((i:Int)+1),by omega,?_,?_,rfl⟩
    ·rw[Q0 _ (by omega) (by omega)];rfl
    ·rw[htk,List.all_append,ht];simp[hc]
  ·have hi:¬ (i:Int)<(l.length:Int):=k0y h
   have hil:i=l.length:=by omega
   subst hil
   rw[List.take_length]at ht
   refine Q7 ?_
   exact⟨z8 [] [] rfl,ht⟩
 ·intro h
  rw[h]
  refine y6 hT ?_
  refine u5 ?_
  exact x8 [] ⟨rfl,rfl⟩ rfl
structure Blk where
 kind:Int
 vol:Int
 addr:Int
 epoch:Int
 seq:Int
 body:x9
 deriving DecidableEq
abbrev Blk.pv (b:Blk):List PV:=[.raw (.int .i64 b.kind),.raw (.int .i64 b.vol),.raw (.int .i64 b.addr),.raw (.int .i64 b.epoch),.raw (.int .i64 b.seq),bP b.body]
abbrev Blk.av (b:Blk):AV:=.agg [i64 b.kind,i64 b.vol,i64 b.addr,i64 b.epoch,i64 b.seq,bA b.body]
def Blk.nums (b:Blk):Bool:=decide (b.kind≥1)&&decide (b.kind≤4)&&[b.vol,b.addr,b.epoch,b.seq].all X2
theorem q9w (b:Blk):AF k0q y3v [b.av] [] (Q9 (bl b.nums) []):=by
 refine Q8 hT Tryz.func135 rfl rfl Tryz.ntmps135 rfl ?_
 refine y6 hT ?_
 refine Z3 (Z4 0 b.pv rfl rfl) ?_
 unfold Blk.nums
 refine u6 (X6 (fun k=>Nat.beq 17 k) hT ?_)
 refine u9 (fun h1=>?_) (fun h1=>?_)
 ·rw[show decide (b.kind≥1)=true from h1]
  refine u9 (fun h2=>?_) (fun h2=>?_)
  ·rw[show decide (b.kind≤4)=true from h2]
   refine⟨⟨rfl,rfl⟩,?_⟩
   refine Q1 (Q5 (x8a [b.vol,b.addr,b.epoch,b.seq] (by simp)) _ rfl rfl) ?_
   refine u5 ?_
   exact x8 [] ⟨rfl,rfl⟩ rfl
  ·rw[show decide (b.kind≤4)=false from h2]
   refine u5 ?_
   exact x8 [] ⟨rfl,rfl⟩ rfl
 ·rw[show decide (b.kind≥1)=false from h1]
  refine u5 ?_
  exact x8 [] ⟨rfl,rfl⟩ rfl
def z6b (w:Nat)(l:List Nat):x9:=l.flatMap (leB w)
theorem z9t (w:Nat)(l:List Nat):(z6b w l).length=w*l.length:=by
 unfold z6b
 induction l with
 |nil=>simp
 |cons n r ih=>rw[List.flatMap_cons,k1y,q0h,ih,List.length_cons,Nat.mul_succ];omega
theorem w8m (w:Nat)(l:List Nat)(n:Nat):z6b w (l++[n])=z6b w l++leB w n:=by unfold z6b;simp
def nx (l:List Nat):List (List PV):=l.map fun n:Nat=>[.raw (.int .i64 (n:Int))]
theorem u1x (l:List Nat):(nx l).length=l.length:=by simp[nx]
theorem u1y {l:List Nat}{i:Nat}{c:Nat}(h:l[i]?=some c):(nx l)[i]?=some [.raw (.int .i64 (c:Int))]:=by rw[nx,k1z,h];rfl
theorem x1a (xs:List (List PV))(w:Nat)(l:List Nat)(hx:xs.length≤1000)(hw:w≤8)(hl:l.length≤100) :
 AFm k0q 0 x7d [.msl 0 1 0 xs.length,i64 w,.p (.sl 1 (nx l))] [.row x6 1 xs] (Q9 (.msl 0 1 0 (xs++bx (z6b w l)).length) [.row x6 1 (xs++bx (z6b w l))]):=by
 refine Z6 0 hT Tryz.func136 rfl rfl Tryz.ntmps136 rfl rfl ?_
 refine y6 hT ?_
 refine u6 (y6 hT ?_)
 refine x3 ?_
 refine Q3 (fun m s=>∃ (i:Nat) (j:Int) (L:List (List PV)),m+i=l.length∧j=i∧L=xs++bx (z6b w (l.take i))∧s=⟨⟨28,[(0,.msl 0 1 0 L.length),(1,i64 w),(9,.p (.sl 1 (nx l))),(10,i64 l.length),(11,i64 j)]⟩,[.row x6 1 L]⟩) l.length ⟨⟨28,_⟩,[_]⟩ (z8 [0] [0,1,9,10,11] rfl) ⟨0,0,xs,rfl,rfl,by simp[z6b,bx],by rw[← u1x l];rfl⟩ ?_
 rintro m s ⟨i,j,L,hmi,rfl,hL,rfl⟩
 have hLl:L.length≤2000:=by
  have h8:w*(l.take i).length≤8*100:=Nat.mul_le_mul hw (by rw[k2u];omega)
  rw[hL,k1y,Z1,z9t];omega
 refine y6 hT ?_
 refine u6 (y8 (u9 (fun h=>?_) (fun h=>?_)))
 ·have hi:i<l.length:=by
   have:=k0z (show decide ((i:Int)<(l.length:Int))=true from h)
   omega
  have hx:=k0w hi
  have htk:l.take (i+1)=l.take i++[l[i]]:=by rw[k2t,hx];rfl
  generalize l[i]=n at hx htk
  have hxp:(nx l)[((i:Nat):Int).toNat]?=some [.raw (.int .i64 (n:Int))]:=by rw[k0u];exact u1y hx
  refine x7 ?_
  refine u0 ⟨⟨28,[(0,.msl 0 1 0 (L++bx (leB w n)).length),(1,i64 w),(9,.p (.sl 1 (nx l))),(10,i64 l.length),(11,i64 i)]⟩,[.row x6 1 (L++bx (leB w n))]⟩ True (x3 (y6 hT ?_)) (fun _=>?_)
  ·refine⟨k2w _,Z2 hxp ?_⟩
   refine y6 hT ?_
   refine x3 ?_
   refine Q3 (fun m s=>∃ (k:Nat) (j v:Int) (M:List (List PV)),m+k=w∧j=k∧v=((n / 256 ^ k:Nat):Int)∧M=L++bx (leB k n)∧s=⟨⟨28,[(0,.msl 0 1 0 M.length),(1,i64 w),(8,i64 v),(9,.p (.sl 1 (nx l))),(10,i64 l.length),(11,i64 i),(15,i64 w),(16,i64 j)]⟩,[.row x6 1 M]⟩) w ⟨⟨28,_⟩,[_]⟩ (z8 [0] [0,1,8,9,10,11,15,16] rfl) ⟨0,0,_,L,rfl,rfl,by rw[Nat.pow_zero,Nat.div_one],by simp[leB,bx],rfl⟩ ?_
   rintro q s ⟨k,j,v,M,hmk,rfl,rfl,hM,rfl⟩
   have hMl:M.length≤2010:=by rw[hM,k1y,Z1,q0h];omega
   refine y6 hT ?_
   refine u6 (y8 (u9 (fun h=>?_) (fun h=>?_)))
   ·have hk:k<w:=by
     have:=k0z (show decide ((k:Int)<(w:Int))=true from h)
     omega
    refine x7 ?_
    refine u0 ⟨⟨28,[(0,.msl 0 1 0 (M++[[u8 (UInt8.ofNat (n / 256 ^ k))]]).length),(1,i64 w),(8,i64 ((n / 256 ^ (k+1):Nat):Int)),(9,.p (.sl 1 (nx l))),(10,i64 l.length),(11,i64 i),(15,i64 w),(16,i64 k)]⟩,[.row x6 1 (M++[[u8 (UInt8.ofNat (n / 256 ^ k))]])]⟩ True (x3 (u6 (X6 (fun k=>Nat.beq 3 k) hT ?_))) (fun _=>?_)
    ·refine⟨⟨rfl,rfl⟩,?_⟩
     refine⟨rfl,⟨?_,?_⟩,?_⟩
     ·show (M.length+1)*1≤140737488355328
      omega
     ·show M.length+1≤140737488355328
      omega
     refine y7 hT ?_
     rw[show u8 (UInt8.ofNat (n / 256 ^ k))=PV.raw (.int .u8 (IntKind.u8.wrap ((n / 256 ^ k:Nat):Int))) by rw[q3f],y4h,← u2u]
     exact⟨z8 [1] [0,1,8,9,10,11,15,16] rfl,trivial⟩
    ·refine y7 hT ?_
     refine⟨q - 1,by omega,_,z8 [0] [0,1,8,9,10,11,15,16] rfl,k+1,IntKind.i64.wrap ((k:Int)+1),_,_,by omega,?_,rfl,by rw[hM,z9q,z9r,List.append_assoc],rfl⟩
     rw[Q0 _ (by omega) (by omega)];rfl
   ·have hk:¬ (k:Int)<(w:Int):=k0y h
    have hkw:k=w:=by omega
    subst hkw
    refine Q7 ?_
    rw[← hM]
    exact⟨z8 [0] [0,1,9,10,11] rfl,trivial⟩
  ·refine y7 hT ?_
   refine⟨m - 1,by omega,_,z8 [0] [0,1,9,10,11] rfl,i+1,IntKind.i64.wrap ((i:Int)+1),_,by omega,?_,by rw[hL,htk,w8m,q3w,List.append_assoc],rfl⟩
   rw[Q0 _ (by omega) (by omega)];rfl
 ·have hi:¬ (i:Int)<(l.length:Int):=k0y h
  have hil:i=l.length:=by omega
  subst hil
  rw[List.take_length]at hL
  refine Q7 ?_
  refine y6 hT ?_
  refine u5 ?_
  rw[← hL]
  exact x8 [0] ⟨rfl,rfl⟩ rfl
def Blk.head (b:Blk):x9:=[81,77,UInt8.ofNat b.kind.toNat,0]++z6b 4 [b.vol.toNat,b.addr.toNat,b.epoch.toNat,b.seq.toNat]++z6b 2 [b.body.length,0]
def Blk.all (b:Blk):x9:=b.head++b.body++List.replicate (228 - b.body.length) 0
def Blk.sld (b:Blk):x9 × Int:=match b.nums with
 |false=>([],1)
 |true=>match decide (b.body.length > 228) with
  |true=>([],2)
  |false=>(J5 b.all,0)
theorem x8b (b:Blk):b.head.length=24:=by unfold Blk.head;rw[k1y,k1y,z9t,z9t];rfl
theorem q6m (b:Blk)(h:b.body.length≤228):b.all.length=252:=by unfold Blk.all;rw[k1y,k1y,x8b,k2z];omega
theorem q1d {m:Nat}{s:St}(i b n:Nat){t:TypeId}{xs ys:List (List PV)}(e:xs=ys)(hn:n=xs.length)(hb:s.H[b]?=some (.row t 1 xs))(hi:W4 s.fr.l i=some (.msl b 1 0 n)) :
 Wk m s ⟨⟨s.fr.n,(i,.p (.sl 1 ys)) :: s.fr.l⟩,s.H.set b .dead⟩:=by
 subst hn
 have:=y4c (m:=m) (s:=s) i b hb hi (by omega)
 rw[List.drop_zero,List.take_length]at this
 subst e
 exact this
theorem y9n (k v a e q:Nat)(body:x9)(hn:(Blk.mk k v a e q body).nums=true)(hb:body.length≤228) :
 AF k0q z9e [(Blk.mk k v a e q body).av] [] (Q9 (.tup [bA (J5 (Blk.mk k v a e q body).all),i64 0]) []):=by
 have hbl:=Z1 body
 have hall:=q6m (Blk.mk k v a e q body) hb
 refine Q8 hT Tryz.func94 rfl rfl Tryz.ntmps94 rfl ?_
 refine y6 hT ?_
 refine Z3 (Z4 0 (Blk.mk k v a e q body).pv rfl rfl) ?_
 have wn:=q9w (Blk.mk k v a e q body)
 rw[hn]at wn
 refine u0 ⟨⟨46,[(1,.p (.box (Blk.mk k v a e q body).pv))]⟩,[]⟩ True (x3 (y6 hT ?_)) (fun _=>?_)
 ·refine Q1 (Q5 wn _ rfl rfl) ?_
  refine y8 ?_
  refine y6 hT ?_
  refine y8 (u9 (fun h=>?_) (fun h=>?_))
  ·have h:=k0z (show decide (((bx body).length:Int) > 228)=true from h)
   omega
  ·exact x7 ⟨z8 [] [1] rfl,trivial⟩
 have l1:=x1a [[u8 81],[u8 77],[.raw (.int .u8 (IntKind.u8.wrap (k:Int)))],[u8 0]] 4 [v,a,e,q] (by simp) (by omega) (by simp)
 generalize hM:[[u8 81],[u8 77],[PV.raw (.int .u8 (IntKind.u8.wrap (k:Int)))],[u8 0]]++bx (z6b 4 [v,a,e,q])=M at l1
 have hMl:M.length=20:=by rw[← hM,k1y,Z1,z9t];rfl
 have l2:=x1a M 2 [(bx body).length,0] (by omega) (by omega) (by simp)
 have hH:M++bx (z6b 2 [(bx body).length,0])=bx (Blk.mk k v a e q body).head:=by
  unfold Blk.head
  rw[hbl,q3w,q3w,← hM,q3f]
  rfl
 have hhl:=x8b (Blk.mk k v a e q body)
 refine u0 ⟨⟨46,[(1,.p (.box (Blk.mk k v a e q body).pv)),(4,.msl 0 1 0 M.length)]⟩,[.row x6 1 M]⟩ True (X6 (fun k=>Nat.beq 12 k) hT ?_) (fun _=>?_)
 ·refine⟨⟨rfl,rfl⟩,?_⟩
  refine Q1 (Z7 [0] l1 rfl rfl rfl) ?_
  exact⟨z8 [1] [1,4] rfl,trivial⟩
 refine u0 ⟨⟨46,[(1,.p (.box (Blk.mk k v a e q body).pv)),(4,.p (.sl 1 (bx (Blk.mk k v a e q body).head)))]⟩,[]⟩ True (X6 (fun k=>Nat.beq 4 k) hT ?_) (fun _=>?_)
 ·refine⟨⟨rfl,rfl⟩,?_⟩
  refine Q1 (Z7 [0] l2 rfl rfl rfl) ?_
  refine⟨Wk.trans (z8 [1] [1,4] rfl) (Wk.trans (q1d 4 0 _ hH rfl rfl rfl) (z8 [] [1,4] rfl)),trivial⟩
 generalize hA:(Blk.mk k v a e q body).all=A at hall
 have hcopy:U0 (U0 (List.replicate 252 [u8 0]) 0 (bx (Blk.mk k v a e q body).head)) 24 (bx body)=bx A:=by
  rw[← hA]
  unfold Blk.all
  rw[q3w,q3w]
  have h1:(bx (Blk.mk k v a e q body).head).length=24:=by rw[Z1,hhl]
  have e1:U0 (List.replicate 252 [u8 0]) 0 (bx (Blk.mk k v a e q body).head)=bx (Blk.mk k v a e q body).head++List.replicate 228 [u8 0]:=by
   unfold U0;rw[h1,List.take_zero,List.drop_replicate,List.nil_append]
  rw[e1]
  unfold U0
  rw[List.take_append_of_le_length (by omega),List.take_of_length_le (by omega),List.drop_append,List.drop_replicate,h1,hbl]
  rw[List.drop_eq_nil_of_le (by omega),List.nil_append]
  rw[show (228:Nat) - (24+body.length - 24)=228 - body.length by omega]
  congr 1
  unfold bx;rw[List.map_replicate]
 refine y6 hT ?_
 refine⟨⟨rfl,by omega,by decide,by omega⟩,?_⟩
 refine u0 ⟨⟨46,[(1,.p (.box (Blk.mk k v a e q body).pv)),(5,.msl 0 1 0 252)]⟩,[.row x6 1 (U0 (List.replicate 252 [u8 0]) 0 (bx (Blk.mk k v a e q body).head))]⟩ True (y7 hT ?_) (fun _=>?_)
 ·have h1:(bx (Blk.mk k v a e q body).head).length=24:=by rw[Z1,hhl]
  refine⟨⟨?_,?_⟩,?_⟩
  ·show 0+252≤(List.replicate 252 _).length
   rw[k2z];omega
  ·show (bx (Blk.mk k v a e q body).head).length≤252
   omega
  exact⟨z8 [0] [1,5] rfl,trivial⟩
 have hl0:(U0 (List.replicate 252 [u8 0]) 0 (bx (Blk.mk k v a e q body).head)).length=252:=by
  rw[V8 (by rw[k2z,Z1,hhl];omega),k2z]
 generalize hS:U0 (List.replicate 252 [u8 0]) 0 (bx (Blk.mk k v a e q body).head)=S at hcopy hl0
 refine u0 ⟨⟨46,[(5,.p (.sl 1 (bx A)))]⟩,[]⟩ True ?_ (fun _=>?_)
 ·refine Z0 [4] [] hT u7 (by rfl) ?_
  refine⟨⟨by omega,by decide,Int.le_refl _⟩,?_⟩
  refine⟨⟨?_,?_⟩,?_⟩
  ·show 0+24+(252 - 24)≤S.length
   omega
  ·show (bx body).length≤252 - 24
   omega
  have hSl:(U0 S 24 (bx body)).length=252:=by rw[V8 (by omega),hl0]
  exact⟨Wk.trans (q1d 5 0 252 hcopy hSl.symm rfl rfl) (z8 [] [5] rfl),trivial⟩
 ·refine y6 hT ?_
  refine Q1 (Q5 (v5c A (by omega)) _ rfl rfl) ?_
  refine u5 ?_
  exact x8 [] ⟨rfl,rfl⟩ rfl
theorem y7e {b:Blk}(h:b.nums=true):∃ k v a e q:Nat,b=⟨k,v,a,e,q,b.body⟩∧1≤k∧k≤4∧v≤4294967295∧a≤4294967295∧e≤4294967295∧q≤4294967295:=by
 obtain⟨k,v,a,e,q,body⟩:=b
 unfold Blk.nums X2 at h
 simp only[List.all_cons,List.all_nil,Bool.and_true,Bool.and_eq_true,decide_eq_true_eq]at h
 obtain⟨⟨k1,k4⟩,⟨v0,v1⟩,⟨a0,a1⟩,⟨e0,e1⟩,q0,q1⟩:=h
 refine⟨k.toNat,v.toNat,a.toNat,e.toNat,q.toNat,?_,by omega,by omega,by omega,by omega,by omega,by omega⟩
 rw[Int.toNat_of_nonneg (by omega),Int.toNat_of_nonneg v0,Int.toNat_of_nonneg a0,Int.toNat_of_nonneg e0,Int.toNat_of_nonneg q0]
theorem q6e (b:Blk):AF k0q z9e [b.av] [] (Q9 (.tup [bA b.sld.1,i64 b.sld.2]) []):=by
 cases hn:b.nums with
 |true=>
  cases hl:decide (b.body.length > 228) with
  |false=>
   have hl:=k0y hl
   have e:b.sld=(J5 b.all,0):=by unfold Blk.sld;rw[hn,k1s hl]
   obtain⟨k,v,a,e',q,hb,_⟩:=y7e hn
   rw[e]
   rw[hb]at hn ⊢
   exact y9n k v a e' q b.body hn (by omega)
  |true=>
   have e:b.sld=([],2):=by unfold Blk.sld;rw[hn,hl]
   have hbl:=Z1 b.body
   have hl:=k0z hl
   have wn:=q9w b
   rw[hn]at wn
   rw[e]
   refine Q8 hT Tryz.func94 rfl rfl Tryz.ntmps94 rfl ?_
   refine y6 hT ?_
   refine Z3 (Z4 0 b.pv rfl rfl) ?_
   refine u6 (x3 (y6 hT ?_))
   refine Q1 (Q5 wn _ rfl rfl) ?_
   refine y8 ?_
   refine y6 hT ?_
   refine y8 (u9 (fun h=>?_) (fun h=>?_))
   ·refine y6 hT ?_
    refine Z3 (q0a 2 1 rfl) ?_
    refine u5 ?_
    exact x8 [] ⟨rfl,rfl⟩ rfl
   ·have h:=k0y (show decide (((bx b.body).length:Int) > 228)=false from h)
    omega
 |false=>
  have e:b.sld=([],1):=by unfold Blk.sld;rw[hn]
  have wn:=q9w b
  rw[hn]at wn
  rw[e]
  refine Q8 hT Tryz.func94 rfl rfl Tryz.ntmps94 rfl ?_
  refine y6 hT ?_
  refine Z3 (Z4 0 b.pv rfl rfl) ?_
  refine u6 (x3 (y6 hT ?_))
  refine Q1 (Q5 wn _ rfl rfl) ?_
  refine y8 ?_
  refine y6 hT ?_
  refine Z3 (q0a 2 1 rfl) ?_
  refine u5 ?_
  exact x8 [] ⟨rfl,rfl⟩ rfl
def z2w:x9→Nat
 |[]=>0
 |c :: r=>z2w r*256+c.toNat
theorem x8c:∀ l:x9,z2w l<256 ^ l.length
 |[]=>by simp[z2w]
 |c :: r=>by
  have ih:=x8c r
  have hc:=c.toNat_lt
  rw[z2w,List.length_cons,Nat.pow_succ]
  omega
theorem v8j (n c:Nat)(hn:n<4294967296)(hc:c<256):IntKind.i64.wrap ((BitVec.ofInt 64 (IntKind.i64.wrap ((n:Int)*2 ^ (min ((8:Nat):Int).toNat 64))) ||| BitVec.ofInt 64 (IntKind.i64.wrap (c:Int))).toNat:Int)=((n*256+c:Nat):Int):=by
 have e1:IntKind.i64.wrap ((n:Int)*2 ^ (min ((8:Nat):Int).toNat 64))=((n*256:Nat):Int):=by
  show IntKind.i64.wrap ((n:Int)*256)=_
  rw[Q0 _ (by omega) (by omega)];omega
 rw[e1,Q0 (c:Int) (by omega) (by omega)]
 have e2:(BitVec.ofInt 64 ((n*256:Nat):Int) ||| BitVec.ofInt 64 (c:Int)).toNat=n*256+c:=by
  rw[BitVec.toNat_or,BitVec.toNat_ofInt,BitVec.toNat_ofInt]
  rw[show (((n*256:Nat):Int) % ((2 ^ 64:Nat):Int)).toNat=n*256 by omega,show ((c:Int) % ((2 ^ 64:Nat):Int)).toNat=c by omega]
  have:=Nat.shiftLeft_add_eq_or_of_lt (show c<2 ^ 8 from hc) n
  rw[Nat.shiftLeft_eq]at this
  exact this.symm
 rw[e2,Q0 _ (by omega) (by omega)]
def q3q (s:x9)(at_ w:Nat):Nat:=z2w ((s.drop at_).take w)
theorem q5q (s:x9)(at_ w:Nat)(hw:w≤4)(hs:at_+w≤s.length)(hl:s.length≤1000000):AF k0q y6d [bA s,i64 at_,i64 w] [] (Q9 (i64 (q3q s at_ w:Nat)) []):=by
 refine Q8 hT Tryz.func168 rfl rfl Tryz.ntmps168 rfl ?_
 refine y6 hT ?_
 refine y6 hT ?_
 refine u6 (y6 hT ?_)
 refine x3 ?_
 refine Q3 (fun m st=>∃ (j v:Int),j=(m:Int) - 1∧m≤w∧v=(z2w ((s.drop (at_+m)).take (w - m)):Nat)∧st=⟨⟨26,[(0,bA s),(1,i64 at_),(7,i64 v),(8,i64 j)]⟩,[]⟩) w ⟨⟨26,_⟩,[]⟩ (z8 [] [0,1,7,8] rfl) ⟨_,0,?_,k1v _,by rw[Nat.sub_self,List.take_zero];rfl,rfl⟩ ?_
 ·exact Q0 _ (by omega) (by omega)
 rintro m st ⟨j,v,hj,hm,hv,rfl⟩
 refine u6 (y6 hT ?_)
 refine y8 (u9 (fun h=>?_) (fun h=>?_))
 ·have h:=k0z (show decide (j≥0)=true from h)
  obtain⟨m,rfl⟩:∃ k,m=k+1:=⟨m - 1,by omega⟩
  have hj:j=(m:Int):=by omega
  subst hj
  have hi:at_+m<s.length:=by omega
  have hx:=k0w hi
  have hdr:s.drop (at_+m)=s[at_+m] :: s.drop (at_+(m+1)):=List.drop_eq_getElem_cons hi
  generalize s[at_+m]=c at hx hdr
  have hc:=c.toNat_lt
  have e1:IntKind.i64.wrap ((at_:Int)+(m:Int))=((at_+m:Nat):Int):=by rw[Q0 _ (by omega) (by omega)];omega
  have hxp:(bx s)[(IntKind.i64.wrap ((at_:Int)+(m:Int))).toNat]?=some [u8 c]:=by rw[e1,k0u];exact y6y hx
  have hL:z2w ((s.drop (at_+m)).take (w - m))=z2w ((s.drop (at_+(m+1))).take (w - (m+1)))*256+c.toNat:=by
   rw[hdr,show w - m=(w - (m+1))+1 by omega,List.take_succ_cons];rfl
  have hlt:=x8c ((s.drop (at_+(m+1))).take (w - (m+1)))
  have hpw:256 ^ ((s.drop (at_+(m+1))).take (w - (m+1))).length≤256 ^ 3:=Nat.pow_le_pow_right (by omega) (by rw[k2u];omega)
  subst hv
  generalize z2w ((s.drop (at_+(m+1))).take (w - (m+1)))=n at hL hlt
  have ho:=v8j n c.toNat (by omega) hc
  refine x7 ?_
  refine u6 (x3 (y7 hT ?_))
  refine⟨by rw[e1];omega,Z2 hxp ?_⟩
  refine y7 hT ?_
  refine⟨m,by omega,_,z8 [] [0,1,7,8] rfl,IntKind.i64.wrap ((m:Int) - 1),_,Q0 _ (by omega) (by omega),by omega,?_,rfl⟩
  rw[hL];exact ho
 ·have h:=k0y (show decide (j≥0)=false from h)
  have hm0:m=0:=by omega
  subst hm0
  refine Q7 ?_
  refine y6 hT ?_
  refine u5 ?_
  rw[Nat.add_zero,Nat.sub_zero]at hv
  subst hv
  exact x8 [] ⟨rfl,rfl⟩ rfl
end Go.Proofs.YtkjklhcfgbaceaaGreat.AL
namespace Go.Proofs.YtkjklhcfgbaceaaGreat.AL
open Go Go.Proofs
theorem q6z (s t:x9):AF k0q y9h [bA s,bA t] [] (Q9 (bl (s==t)) []):=by
 refine Q8 hT Tryz.func126 rfl rfl Tryz.ntmps126 rfl ?_
 refine y6 hT ?_
 refine y6 hT ?_
 refine⟨s,rfl,?_⟩
 refine⟨t,rfl,?_⟩
 refine⟨s==t,by rw[ByteArray.toList_eq,ByteArray.toList_eq],?_⟩
 refine u5 ?_
 exact x8 [] ⟨rfl,rfl⟩ rfl
abbrev u2v (m:Int):ABlk:=.cells x7k [.ref 1 0,i64 m]
abbrev hH (D:Dev)(m:Int):List ABlk:=[u2v m,q2x D 2 3,.row Y7 4 (cx D.cells),.row Y4 2 (wx D.waits)]
abbrev w5u (a:Int)(s:x9):AV:=.agg [i64 a,bA s]
def Dev.hhas (D:Dev)(a:Int)(s:x9):(Bool × Int) × Dev:=match (D.read a).1.2==20 with
 |true=>((false,0),(D.read a).2)
 |false=>(((D.read a).1.2==0&&(D.read a).1.1==s,(D.read a).1.2),(D.read a).2)
theorem v8k {D E:Dev}{a:Int}{s x1:x9}{x2:Int}(h:D.read a=((x1,x2),E)):D.hhas a s=(match x2==20 with|true=>((false,0),E)|false=>((x2==0&&x1==s,x2),E)):=by
 unfold Dev.hhas;rw[h]
theorem v5d (D:Dev)(m a:Int)(s:x9)(b:Nat)(hD:D.Ok b)(hb:b≤1000000):AFm k0q 4 y3w [.ref 0 0,w5u a s] (hH D m) (Q9 (.tup [bl (D.hhas a s).1.1,i64 (D.hhas a s).1.2]) (hH (D.hhas a s).2 m)):=by
 have big:=hD.big hb
 have rd:=y1y D a big.2.1 big.2.2.1 big.2.2.2
 rcases hr:D.read a with ⟨⟨x1,x2⟩,E⟩
 have he:=v8k (s:=s) hr
 rw[hr]at rd
 generalize D.hhas a s=Z at he
 refine Z6 4 hT Tryz.func167 rfl rfl Tryz.ntmps167 rfl rfl ?_
 refine y6 hT ?_
 refine Z3 (Z4 4 [.raw (.int .i64 a),bP s] rfl rfl) ?_
 refine u0 ⟨⟨29,[(3,.p (.box [.raw (.int .i64 a),bP s])),(6,bA x1),(7,i64 x2)]⟩,hH E m⟩ True ?_ (fun _=>?_)
 ·refine Z0 [6] [] hT u7 (by rfl) ?_
  refine⟨_,_,Z7 [1,2,3] rd rfl rfl rfl,?_⟩
  exact⟨z8 [0,1,2,3] [3,6,7] rfl,trivial⟩
 refine u6 (y6 hT ?_)
 refine y8 (u9 (fun h=>?_) (fun h=>?_))
 ·have h:(x2==20)=true:=h
  rw[h]at he;subst he
  refine y6 hT ?_
  refine u5 ?_
  exact x8 [0,1,2,3] ⟨rfl,rfl⟩ rfl
 ·have h:(x2==20)=false:=h
  rw[h]at he;subst he
  refine x7 ?_
  refine y6 hT ?_
  refine u9 (fun h2=>?_) (fun h2=>?_)
  ·refine Q1 (Q5 (q6z x1 s) _ rfl rfl) ?_
   refine u5 ?_
   have h2:(x2==0)=true:=h2
   rw[h2]
   exact x8 [0,1,2,3] ⟨rfl,rfl⟩ rfl
  ·refine u5 ?_
   have h2:(x2==0)=false:=h2
   rw[h2]
   exact x8 [0,1,2,3] ⟨rfl,rfl⟩ rfl
def Dev.once (D:Dev)(a:Int)(s:x9):(Bool × Int) × Dev:=match (D.write a s).1 != 0 with
 |true=>((false,(D.write a s).1),(D.write a s).2)
 |false=>match (D.write a s).2.flush.1 != 0 with
  |true=>((false,(D.write a s).2.flush.1),(D.write a s).2.flush.2)
  |false=>(D.write a s).2.flush.2.hhas a s
theorem w8n (D:Dev)(m a:Int)(s:x9)(b:Nat)(hD:D.Ok b)(hb:b<1000000):AFm k0q 2 y1s [.ref 0 0,w5u a s] (hH D m) (Q9 (.tup [bl (D.once a s).1.1,i64 (D.once a s).1.2]) (hH (D.once a s).2 m)):=by
 have big:=hD.big (Nat.le_of_lt hb)
 have w1:=y6r D a s big.2.1
 have ok1:=hD.write a s
 have he:D.once a s=(match (D.write a s).1 != 0 with|true=>((false,(D.write a s).1),(D.write a s).2)|false=>match (D.write a s).2.flush.1 != 0 with|true=>((false,(D.write a s).2.flush.1),(D.write a s).2.flush.2)|false=>(D.write a s).2.flush.2.hhas a s):=rfl
 generalize D.write a s=W at he w1 ok1
 obtain⟨e1,D1⟩:=W
 replace ok1:D1.Ok (b+1):=ok1
 have big1:=ok1.big (show b+1≤1000000 by omega)
 have w2:=y6p D1 big1.1 big1.2.1
 have ok2:=ok1.flush
 replace he:D.once a s=(match e1 != 0 with|true=>((false,e1),D1)|false=>match D1.flush.1 != 0 with|true=>((false,D1.flush.1),D1.flush.2)|false=>D1.flush.2.hhas a s):=he
 generalize D1.flush=W at he w2 ok2
 obtain⟨e2,D2⟩:=W
 replace ok2:D2.Ok (b+1):=ok2
 have w3:=v5d D2 m a s (b+1) ok2 (by omega)
 replace he:D.once a s=(match e1 != 0 with|true=>((false,e1),D1)|false=>match e2 != 0 with|true=>((false,e2),D2)|false=>D2.hhas a s):=he
 generalize D2.hhas a s=Y at he w3
 obtain⟨⟨y1,y2⟩,D3⟩:=Y
 generalize D.once a s=Z at he
 refine Z6 2 hT Tryz.func124 rfl rfl Tryz.ntmps124 rfl rfl ?_
 refine y6 hT ?_
 refine Z3 (Z4 4 [.raw (.int .i64 a),bP s] rfl rfl) ?_
 refine u0 ⟨⟨33,[(0,.ref 0 0),(3,.p (.box [.raw (.int .i64 a),bP s]))]⟩,hH D1 m⟩ (e1=0) (u6 ?_) ?_
 ·refine Z0 [8] [] hT u7 (by rfl) ?_
  refine⟨_,_,Z7 [1,2,3] w1 rfl rfl rfl,?_⟩
  refine y6 hT ?_
  refine y8 (u9 (fun h=>?_) (fun h=>?_))
  ·have h:(e1 != 0)=true:=h
   rw[h]at he;subst he
   refine y6 hT ?_
   refine u5 ?_
   exact x8 [0,1,5,6] ⟨rfl,rfl⟩ rfl
  ·have h:(e1 != 0)=false:=h
   exact x7 ⟨z8 [0,1,5,6] [0,3] rfl,by simpa using h⟩
 rintro h1
 rw[show (e1 != 0)=false by simpa using h1]at he
 refine u0 ⟨⟨33,[(0,.ref 0 0),(3,.p (.box [.raw (.int .i64 a),bP s]))]⟩,hH D2 m⟩ (e2=0) (y6 hT ?_) ?_
 ·refine Q1 (Z7 [1,2,3] w2 rfl rfl rfl) ?_
  refine y6 hT ?_
  refine y8 (u9 (fun h=>?_) (fun h=>?_))
  ·have h:(e2 != 0)=true:=h
   rw[h]at he;subst he
   refine y6 hT ?_
   refine u5 ?_
   exact x8 [0,1,4,5] ⟨rfl,rfl⟩ rfl
  ·have h:(e2 != 0)=false:=h
   exact x7 ⟨z8 [0,1,4,5] [0,3] rfl,by simpa using h⟩
 rintro h2
 rw[show (e2 != 0)=false by simpa using h2]at he
 subst he
 refine y6 hT ?_
 refine Q1 (Z7 [0,1,2,3] w3 rfl rfl rfl) ?_
 refine u5 ?_
 exact x8 [0,1,2,3] ⟨rfl,rfl⟩ rfl
end Go.Proofs.YtkjklhcfgbaceaaGreat.AL
namespace Go.Proofs.YtkjklhcfgbaceaaGreat.AL
open Go Go.Proofs Go.Proofs.YtkjklhcfgbaceaaGreat.AL.Crc
def Blk.zero:Blk:=⟨0,0,0,0,0,[]⟩
def y2z (s:x9):Blk:=⟨((s.getD 2 0).toNat:Int),(q3q s 4 4:Nat),(q3q s 8 4:Nat),(q3q s 12 4:Nat),(q3q s 16 4:Nat),(s.drop 24).take (q3q s 20 2)⟩
def W9 (s:x9):Blk × Int:=match decide (s.length=256) with
 |false=>(Blk.zero,1)
 |true=>match !(q3g s)||decide ((q3q s 20 2:Int) > 228) with
  |true=>(Blk.zero,7)
  |false=>match (y2z s).sld.2 != 0||!(s==(y2z s).sld.1) with
   |true=>(Blk.zero,7)
   |false=>(y2z s,0)
abbrev x1b:List AV:=[i64 0,i64 0,i64 0,i64 0,i64 0,.p (.raw (.slice none 0 0))]
theorem q8g:LessCL x1b [i64 0,i64 0,i64 0,i64 0,i64 0,bA []]:=⟨.inl rfl,.inl rfl,.inl rfl,.inl rfl,.inl rfl,.inr (.inr (.inr ⟨1,rfl,rfl⟩)),trivial⟩
theorem z7t (s:x9)(hl:s.length≤1000000):AF k0q z9h [bA s] [] (Q9 (.tup [(W9 s).1.av,i64 (W9 s).2]) []):=by
 have hbl:=Z1 s
 refine Q8 hT Tryz.func128 rfl rfl Tryz.ntmps128 rfl ?_
 refine y6 hT ?_
 refine u0 ⟨⟨56,[(0,bA s),(2,.ref 0 0)]⟩,[.cells q1m x1b]⟩ (s.length=256) (y6 hT ?_) ?_
 ·refine y8 (u9 (fun h=>?_) (fun h=>?_))
  ·have h:(((bx s).length:Int) != 256)=true:=h
   have hne:s.length≠256:=by rw[hbl]at h;intro e;rw[e]at h;simp at h
   have eo:W9 s=(Blk.zero,1):=by unfold W9;rw[k1s hne]
   refine y6 hT ?_
   refine Z3 (U2 0 [i64 0,i64 0,i64 0,i64 0,i64 0,bA []] rfl q8g) ?_
   refine u5 ?_
   rw[eo]
   exact x8 [] ⟨rfl,rfl⟩ rfl
  ·have h:(((bx s).length:Int) != 256)=false:=h
   have he:s.length=256:=by
    rw[hbl]at h
    have:(s.length:Int)=256:=by simpa using h
    omega
   exact x7 ⟨z8 [0] [0,2] rfl,he⟩
 intro h256
 have hd:decide (s.length=256)=true:=k1t h256
 have w20:=q5q s 20 2 (by omega) (by omega) (by omega)
 have w4:=q5q s 4 4 (by omega) (by omega) (by omega)
 have w8:=q5q s 8 4 (by omega) (by omega) (by omega)
 have w12:=q5q s 12 4 (by omega) (by omega) (by omega)
 have w16:=q5q s 16 4 (by omega) (by omega) (by omega)
 refine y6 hT ?_
 refine Q1 (Q5 w20 _ rfl rfl) ?_
 refine u0 ⟨⟨56,[(0,bA s),(2,.ref 0 0),(4,i64 (q3q s 20 2:Nat))]⟩,[.cells q1m x1b]⟩ ((!(q3g s)||decide ((q3q s 20 2:Int) > 228))=false) (y6 hT ?_) ?_
 ·refine Q1 (Q5 (w8k s hl) _ rfl rfl) ?_
  have bad:(!(q3g s)||decide ((q3q s 20 2:Int) > 228))=true→W9 s=(Blk.zero,7):=fun h=>by unfold W9;rw[hd,h]
  refine u9 (fun h=>?_) (fun h=>?_)
  ·have h:(!(q3g s))=true:=h
   refine y8 ?_
   refine y6 hT ?_
   refine Z3 (U2 0 [i64 0,i64 0,i64 0,i64 0,i64 0,bA []] rfl q8g) ?_
   refine u5 ?_
   rw[bad (by rw[h];rfl)]
   exact x8 [] ⟨rfl,rfl⟩ rfl
  ·have h:(!(q3g s))=false:=h
   refine y8 (u9 (fun h2=>?_) (fun h2=>?_))
   ·have h2:decide ((q3q s 20 2:Int) > 228)=true:=h2
    refine y6 hT ?_
    refine Z3 (U2 0 [i64 0,i64 0,i64 0,i64 0,i64 0,bA []] rfl q8g) ?_
    refine u5 ?_
    rw[bad (by rw[h2,Bool.or_true])]
    exact x8 [] ⟨rfl,rfl⟩ rfl
   ·have h2:decide ((q3q s 20 2:Int) > 228)=false:=h2
    exact x7 ⟨z8 [0] [0,2,4] rfl,by rw[h,h2];rfl⟩
 intro hgood
 obtain⟨c2,hc2⟩:∃ c,s[2]?=some c:=⟨_,k0w (by omega)⟩
 have hg2:(bx s)[(2:Int).toNat]?=some [u8 c2]:=y6y hc2
 obtain⟨K,hK⟩:∃ K:Int,K=IntKind.i64.wrap (c2.toNat:Int):=⟨_,rfl⟩
 refine u0 ⟨⟨56,[(0,bA s),(2,.ref 0 0),(4,i64 (q3q s 20 2:Nat)),(5,.ref 1 0)]⟩,[.cells q1m x1b,.cells q1m [i64 K,i64 (q3q s 4 4:Nat),i64 (q3q s 8 4:Nat),i64 (q3q s 12 4:Nat),i64 (q3q s 16 4:Nat),.p (.raw (.slice none 0 0))]]⟩ True ?_ (fun _=>?_)
 ·refine Z0 [13,14] [] hT u7 (by rfl) ?_
  refine⟨by omega,Z2 hg2 ?_⟩
  refine⟨_,Q5 w4 _ rfl rfl,?_⟩
  refine⟨_,Q5 w8 _ rfl rfl,?_⟩
  refine⟨_,Q5 w12 _ rfl rfl,?_⟩
  refine⟨_,Q5 w16 _ rfl rfl,?_⟩
  refine⟨rfl,?_⟩
  refine⟨rfl,?_⟩
  refine⟨⟨_,Q5 w4 _ rfl rfl,rfl⟩,?_⟩
  refine⟨⟨_,Q5 w8 _ rfl rfl,rfl⟩,?_⟩
  refine⟨⟨_,Q5 w12 _ rfl rfl,rfl⟩,?_⟩
  refine⟨⟨_,Q5 w16 _ rfl rfl,rfl⟩,?_⟩
  rw[hK]
  exact⟨z8 [0,1] [0,2,4,5] rfl,trivial⟩
 have hc:=c2.toNat_lt
 rw[Q0 _ (by omega) (by omega)]at hK
 rw[Bool.or_eq_false_iff]at hgood
 have hlong:=k0y hgood.2
 have hbo:y2z s=⟨K,(q3q s 4 4:Nat),(q3q s 8 4:Nat),(q3q s 12 4:Nat),(q3q s 16 4:Nat),(s.drop 24).take (q3q s 20 2)⟩:=by
  unfold y2z
  rw[k0v,hc2,hK];rfl
 have eO:∀ b t e,y2z s=b→b.sld=(t,e)→W9 s=match e != 0||!(s==t) with|true=>(Blk.zero,7)|false=>(b,0):=fun b t e h1 h2=>by
  unfold W9
  rw[hd,hgood.1,hgood.2,h1,h2];rfl
 generalize hL:q3q s 20 2=L at hbo hlong
 obtain⟨Y,hY⟩:∃ Y:x9,Y=(s.drop 24).take L:=⟨_,rfl⟩
 have eW:IntKind.i64.wrap (24+(L:Int))=((24+L:Nat):Int):=by rw[Q0 _ (by omega) (by omega)];omega
 have eY:((bx s).take (IntKind.i64.wrap (24+(L:Int))).toNat).drop (24:Int).toNat=bx Y:=by
  rw[eW,k0u,hY,z9s,z1y,show (24:Int).toNat=24 from rfl,List.drop_take,Nat.add_sub_cancel_left]
 have wC:AF k0q q9u [.p (.sl 1 (((bx s).take (IntKind.i64.wrap (24+(L:Int))).toNat).drop (24:Int).toNat))] [] (Q9 (bA Y) []):=by
  rw[eY];exact x7y Y (by rw[hY,k2u,List.length_drop];omega)
 rw[← hY]at hbo
 generalize (q3q s 4 4:Int)=v at hbo
 generalize (q3q s 8 4:Int)=a at hbo
 generalize (q3q s 12 4:Int)=e' at hbo
 generalize (q3q s 16 4:Int)=q at hbo
 have hS:=q6e ⟨K,v,a,e',q,Y⟩
 have eO:=eO _ (Blk.sld ⟨K,v,a,e',q,Y⟩).1 (Blk.sld ⟨K,v,a,e',q,Y⟩).2 hbo rfl
 generalize Blk.sld ⟨K,v,a,e',q,Y⟩=Z at hS eO
 obtain⟨t,e⟩:=Z
 simp only at eO
 refine u0 ⟨⟨56,[(0,bA s),(2,.ref 0 0),(5,.ref 1 0)]⟩,[.cells q1m x1b,.cells q1m [i64 K,i64 v,i64 a,i64 e',i64 q,bA Y]]⟩ True (y7 hT ?_) (fun _=>?_)
 ·refine⟨⟨by omega,?_,?_⟩,?_⟩
  ·show 24≤IntKind.i64.wrap (24+(L:Int))
   rw[eW];omega
  ·show IntKind.i64.wrap (24+(L:Int))≤((bx s).length:Int)
   rw[eW,hbl];omega
  refine Q1 (Q5 wC _ rfl rfl) ?_
  exact⟨z8 [0,1] [0,2,5] rfl,trivial⟩
 refine u0 ⟨⟨56,[(2,.ref 0 0),(5,.ref 1 0)]⟩,[.cells q1m x1b,.cells q1m [i64 K,i64 v,i64 a,i64 e',i64 q,bA Y]]⟩ ((e != 0||!(s==t))=false) (y6 hT ?_) ?_
 ·refine Q1 (Q5 hS _ rfl rfl) ?_
  refine y6 hT ?_
  refine u9 (fun h1=>?_) (fun h1=>?_)
  ·have h1:(e != 0)=true:=h1
   rw[h1]at eO
   refine y8 ?_
   refine y6 hT ?_
   refine Z3 (U2 0 [i64 0,i64 0,i64 0,i64 0,i64 0,bA []] rfl q8g) ?_
   refine u5 ?_
   rw[eO]
   exact x8 [] ⟨rfl,rfl⟩ rfl
  ·have h1:(e != 0)=false:=h1
   rw[h1]at eO
   refine Q1 (Q5 (q6z s t) _ rfl rfl) ?_
   refine y8 (u9 (fun h2=>?_) (fun h2=>?_))
   ·have h2:(!(s==t))=true:=h2
    rw[h2]at eO
    refine y6 hT ?_
    refine Z3 (U2 0 [i64 0,i64 0,i64 0,i64 0,i64 0,bA []] rfl q8g) ?_
    refine u5 ?_
    rw[eO]
    exact x8 [] ⟨rfl,rfl⟩ rfl
   ·have h2:(!(s==t))=false:=h2
    exact x7 ⟨z8 [0,1] [2,5] rfl,by rw[h1,h2];rfl⟩
 intro h
 rw[h]at eO
 refine y6 hT ?_
 refine u5 ?_
 rw[eO]
 exact x8 [] ⟨rfl,rfl⟩ rfl
theorem x8d (n w:Nat)(hn:n<9000000000000000000)(hw:w≤8):AF k0q z1q [i64 n,i64 w] [] (Q9 (.msl 0 1 0 (bx (leB w n)).length) [.row x6 1 (bx (leB w n))]):=by
 refine Q8 hT Tryz.func105 rfl rfl Tryz.ntmps105 rfl ?_
 refine y6 hT ?_
 refine y6 hT ?_
 refine Z3 (Wk.trans (W8 x6 1) (q3u 5 0 1 0 rfl)) ?_
 refine u6 (y6 hT ?_)
 refine x3 ?_
 refine Q3 (fun m s=>∃ (i:Nat) (j v:Int) (L:x9),m+i=w∧j=i∧v=((n / 256 ^ i:Nat):Int)∧L=leB i n∧s=⟨⟨21,[(0,i64 v),(1,i64 w),(5,.msl 0 1 0 (bx L).length),(6,i64 j)]⟩,[.row x6 1 (bx L)]⟩) w ⟨⟨21,_⟩,[_]⟩ (z8 [0] [0,1,5,6] rfl) ⟨0,0,_,[],rfl,rfl,by rw[Nat.pow_zero,Nat.div_one],rfl,rfl⟩ ?_
 rintro m s ⟨i,j,v,L,hmi,rfl,rfl,hL,rfl⟩
 have hLl:L.length=i:=by rw[hL,q0h]
 have hbl:=Z1 L
 refine u6 (y6 hT ?_)
 refine y8 (u9 (fun h=>?_) (fun h=>?_))
 ·have hi:i<w:=by
   have:=k0z (show decide ((i:Int)<(w:Int))=true from h)
   omega
  refine x7 ?_
  refine u0 ⟨⟨21,[(0,i64 ((n / 256 ^ (i+1):Nat):Int)),(1,i64 w),(5,.msl 0 1 0 (bx (L++[UInt8.ofNat (n / 256 ^ i)])).length),(6,i64 i)]⟩,[.row x6 1 (bx (L++[UInt8.ofNat (n / 256 ^ i)]))]⟩ True (x3 (u6 (X6 (fun k=>Nat.beq 4 k) hT ?_))) (fun _=>?_)
  ·refine⟨⟨rfl,rfl⟩,?_⟩
   refine⟨rfl,⟨?_,?_⟩,?_⟩
   ·show ((bx L).length+1)*1≤140737488355328
    omega
   ·show (bx L).length+1≤140737488355328
    omega
   refine y7 hT ?_
   have hq:n / 256 ^ i≤n:=Nat.div_le_self _ _
   rw[z9r,show u8 (UInt8.ofNat (n / 256 ^ i))=PV.raw (.int .u8 (IntKind.u8.wrap (((n / 256 ^ i:Nat):Int).tmod 256))) by rw[v5b],y4h,← y7c _ 256 (by omega)]
   exact⟨z8 [1] [0,1,5,6] rfl,trivial⟩
  ·refine y7 hT ?_
   refine⟨m - 1,by omega,_,z8 [0] [0,1,5,6] rfl,i+1,IntKind.i64.wrap ((i:Int)+1),_,_,by omega,?_,rfl,by rw[hL,z9q],rfl⟩
   rw[Q0 _ (by omega) (by omega)];rfl
 ·have hi:¬ (i:Int)<(w:Int):=k0y h
  have hi4:i=w:=by omega
  subst hi4
  refine Q7 ?_
  refine y6 hT ?_
  refine u5 ?_
  subst hL
  exact x8 [0] ⟨rfl,rfl⟩ rfl
theorem q8h (n w:Nat)(hn:n<9000000000000000000)(hw:w≤8):AF k0q z1q [i64 n,i64 w] [] (Q9 (bA (leB w n)) []):=z3q (x8d n w hn hw) rfl
theorem q9x (b:Blk):AF k0q y3u [b.av] [] (Q9 (bl b.nums) []):=by
 refine Q8 hT Tryz.func104 rfl rfl Tryz.ntmps104 rfl ?_
 refine y6 hT ?_
 refine Z3 (Z4 0 b.pv rfl rfl) ?_
 have hk:∀ n:Int,X2 n=(!(decide (n<0))&&!(decide (n > 4294967295))):=fun n=>by
  unfold X2
  rw[← decide_not,← decide_not]
  congr 1
  ·exact decide_eq_decide.mpr (by omega)
  ·exact decide_eq_decide.mpr (by omega)
 unfold Blk.nums
 refine u6 (X6 (fun k=>Nat.beq 8 k) hT ?_)
 refine⟨⟨rfl,rfl⟩,?_⟩
 generalize hl:[b.vol,b.addr,b.epoch,b.seq]=l
 refine u0 ⟨⟨38,[(1,.p (.box b.pv))]⟩,[]⟩ (l.all X2=true) ?_ ?_
 ·refine Z3 (s2:=⟨⟨38,[(1,.p (.box b.pv)),(3,.p (.sl 1 (ix l)))]⟩,[]⟩) (by rw[← hl];exact z8 [] [1,3] rfl) ?_
  have hll:l.length=4:=by rw[← hl];rfl
  refine y6 hT ?_
  refine x3 ?_
  refine Q3 (fun n s=>∃ (i:Nat) (j:Int),n+i=4∧j=i∧(l.take i).all X2=true∧s=⟨⟨38,[(1,.p (.box b.pv)),(3,.p (.sl 1 (ix l))),(4,i64 j)]⟩,[]⟩) 4 ⟨⟨38,_⟩,[]⟩ (z8 [] [1,3,4] rfl) ⟨0,0,rfl,rfl,rfl,rfl⟩ ?_
  rintro n s ⟨i,j,hni,rfl,ht,rfl⟩
  refine u6 (y6 hT ?_)
  refine y8 (u9 (fun h=>?_) (fun h=>?_))
  ·have hi:i<l.length:=by
    have:=k0z (show decide ((i:Int)<4)=true from h)
    omega
   have hx:=k0w hi
   have hmem:=k1w hi
   have htk:l.take (i+1)=l.take i++[l[i]]:=by rw[k2t,hx];rfl
   generalize l[i]=c at hx htk hmem
   have hxp:(ix l)[((i:Nat):Int).toNat]?=some [.raw (.int .i64 c)]:=by rw[k0u];exact ixg hx
   have bad:X2 c=false→l.all X2=false:=fun h=>by
    rw[List.all_eq_false];exact⟨c,hmem,by rw[h];simp⟩
   refine x7 ?_
   refine u0 ⟨⟨38,[(1,.p (.box b.pv)),(3,.p (.sl 1 (ix l))),(4,i64 i)]⟩,[]⟩ (X2 c=true) (x3 (y6 hT ?_)) ?_
   ·refine⟨k2w _,Z2 hxp ?_⟩
    refine u9 (fun h2=>?_) (fun h2=>?_)
    ·have h2:decide (c<0)=true:=h2
     refine y8 ?_
     refine y6 hT ?_
     refine u5 ?_
     rw[bad (by rw[hk,h2];rfl),Bool.and_false]
     exact x8 [] ⟨rfl,rfl⟩ rfl
    ·have h2:decide (c<0)=false:=h2
     refine⟨k2w _,Z2 hxp ?_⟩
     refine y8 (u9 (fun h3=>?_) (fun h3=>?_))
     ·have h3:decide (c > 4294967295)=true:=h3
      refine y6 hT ?_
      refine u5 ?_
      rw[bad (by rw[hk,h2,h3];rfl),Bool.and_false]
      exact x8 [] ⟨rfl,rfl⟩ rfl
     ·have h3:decide (c > 4294967295)=false:=h3
      exact x7 ⟨z8 [] [1,3,4] rfl,by rw[hk,h2,h3];rfl⟩
   ·intro hc
    refine y7 hT ?_
    refine⟨n - 1,by omega,_,z8 [] [1,3,4] rfl,i+1,IntKind.i64.wrap ((i:Int)+1),by omega,?_,?_,rfl⟩
    ·rw[Q0 _ (by omega) (by omega)];rfl
    ·rw[htk,List.all_append,ht];simp[hc]
  ·have hi:¬ (i:Int)<4:=k0y h
   have hil:i=l.length:=by omega
   subst hil
   rw[List.take_length]at ht
   refine Q7 ?_
   exact⟨z8 [] [1] rfl,ht⟩
 intro h
 rw[h,Bool.and_true]
 refine y6 hT ?_
 refine u9 (fun h1=>?_) (fun h1=>?_)
 ·rw[show decide (b.kind≥1)=true from h1]
  refine u5 ?_
  exact x8 [] ⟨rfl,rfl⟩ rfl
 ·rw[show decide (b.kind≥1)=false from h1]
  refine u5 ?_
  exact x8 [] ⟨rfl,rfl⟩ rfl
theorem x1c (w n:Nat)(l:List Nat):z6b w (n :: l)=leB w n++z6b w l:=rfl
theorem x8e (w:Nat):z6b w []=[]:=rfl
theorem y9p (k v a e q:Nat)(body:x9)(hn:(Blk.mk k v a e q body).nums=true)(hb:body.length≤228)(hv:v≤4294967295)(ha:a≤4294967295)(he:e≤4294967295)(hq:q≤4294967295) :
 AF k0q z9a [(Blk.mk k v a e q body).av] [] (Q9 (.tup [bA (J5 (Blk.mk k v a e q body).all),i64 0]) []):=by
 have hbl:=Z1 body
 have hall:=q6m (Blk.mk k v a e q body) hb
 refine Q8 hT Tryz.func58 rfl rfl Tryz.ntmps58 rfl ?_
 refine y6 hT ?_
 refine Z3 (Z4 0 (Blk.mk k v a e q body).pv rfl rfl) ?_
 have wn:=q9x (Blk.mk k v a e q body)
 rw[hn]at wn
 refine y6 hT ?_
 refine Q1 (Q5 wn _ rfl rfl) ?_
 refine u6 (y6 hT ?_)
 refine y8 ?_
 refine x7 ?_
 refine u0 ⟨⟨59,[(1,.p (.box (Blk.mk k v a e q body).pv))]⟩,[]⟩ True (y6 hT ?_) (fun _=>?_)
 ·refine y8 (u9 (fun h=>?_) (fun h=>?_))
  ·have h:=k0z (show decide (((bx body).length:Int) > 228)=true from h)
   omega
  ·exact x7 ⟨z8 [] [1] rfl,trivial⟩
 have key:∀ (L:x9) (r:x9),L.length≤400→r.length≤400→((bx L).length+(bx r).length)*1≤140737488355328∧(bx L).length+(bx r).length≤140737488355328:=fun L r h1 h2=>by
  rw[Z1,Z1];omega
 generalize hL0:([81,77,UInt8.ofNat k,0]:x9)=L0
 have l0:L0.length=4:=by rw[← hL0];rfl
 have b0:[[u8 81],[u8 77],[PV.raw (.int .u8 (IntKind.u8.wrap (k:Int)))],[u8 0]]=bx L0:=by rw[← hL0,q3f];rfl
 have w1:=q8h v 4 (by omega) (by omega)
 have w2:=q8h a 4 (by omega) (by omega)
 have w3:=q8h e 4 (by omega) (by omega)
 have w4:=q8h q 4 (by omega) (by omega)
 have w5:AF k0q z1q [i64 (bx body).length,i64 2] [] (Q9 (bA (leB 2 body.length)) []):=by rw[hbl];exact q8h body.length 2 (by omega) (by omega)
 have hhead:(Blk.mk k v a e q body).head=L0++leB 4 v++leB 4 a++leB 4 e++leB 4 q++leB 2 body.length++[0,0]:=by
  unfold Blk.head
  simp only[x1c,x8e,Int.toNat_natCast]
  rw[← hL0]
  simp only[List.append_assoc,List.append_nil]
  rfl
 have hA:(Blk.mk k v a e q body).all=L0++leB 4 v++leB 4 a++leB 4 e++leB 4 q++leB 2 body.length++[0,0]++body++List.replicate (228 - body.length) 0:=by
  unfold Blk.all
  rw[hhead]
 have n1:=q0h 4 v
 have n2:=q0h 4 a
 have n3:=q0h 4 e
 have n4:=q0h 4 q
 have n5:=q0h 2 body.length
 generalize leB 4 v=c1 at w1 hA n1
 generalize leB 4 a=c2 at w2 hA n2
 generalize leB 4 e=c3 at w3 hA n3
 generalize leB 4 q=c4 at w4 hA n4
 generalize leB 2 body.length=c5 at w5 hA n5
 generalize hAA:(Blk.mk k v a e q body).all=A at hA hall
 clear hhead hn wn hL0
 refine u0 ⟨⟨59,[(1,.p (.box (Blk.mk k v a e q body).pv)),(5,.msl 0 1 0 (bx L0).length)]⟩,[.row x6 1 (bx L0)]⟩ True (y7 hT ?_) (fun _=>?_)
 ·rw[← b0]
  exact⟨z8 [0] [1,5] rfl,trivial⟩
 refine u0 ⟨⟨59,[(1,.p (.box (Blk.mk k v a e q body).pv)),(5,.msl 0 1 0 (bx (L0++c1)).length)]⟩,[.row x6 1 (bx (L0++c1))]⟩ True (y7 hT ?_) (fun _=>?_)
 ·refine Q1 (Q5 w1 _ rfl rfl) ?_
  refine⟨rfl,key L0 c1 (by omega) (by omega),?_⟩
  rw[q3w]
  exact⟨z8 [1] [1,5] rfl,trivial⟩
 generalize h1:L0++c1=L1 at hA
 have l1:L1.length=8:=by rw[← h1,k1y];omega
 refine u0 ⟨⟨59,[(1,.p (.box (Blk.mk k v a e q body).pv)),(5,.msl 0 1 0 (bx (L1++c2)).length)]⟩,[.row x6 1 (bx (L1++c2))]⟩ True (y7 hT ?_) (fun _=>?_)
 ·refine Q1 (Q5 w2 _ rfl rfl) ?_
  refine⟨rfl,key L1 c2 (by omega) (by omega),?_⟩
  rw[q3w]
  exact⟨z8 [1] [1,5] rfl,trivial⟩
 generalize h2:L1++c2=L2 at hA
 have l2:L2.length=12:=by rw[← h2,k1y];omega
 refine u0 ⟨⟨59,[(1,.p (.box (Blk.mk k v a e q body).pv)),(5,.msl 0 1 0 (bx (L2++c3)).length)]⟩,[.row x6 1 (bx (L2++c3))]⟩ True (y7 hT ?_) (fun _=>?_)
 ·refine Q1 (Q5 w3 _ rfl rfl) ?_
  refine⟨rfl,key L2 c3 (by omega) (by omega),?_⟩
  rw[q3w]
  exact⟨z8 [1] [1,5] rfl,trivial⟩
 generalize h3:L2++c3=L3 at hA
 have l3:L3.length=16:=by rw[← h3,k1y];omega
 refine u0 ⟨⟨59,[(1,.p (.box (Blk.mk k v a e q body).pv)),(5,.msl 0 1 0 (bx (L3++c4)).length)]⟩,[.row x6 1 (bx (L3++c4))]⟩ True (y7 hT ?_) (fun _=>?_)
 ·refine Q1 (Q5 w4 _ rfl rfl) ?_
  refine⟨rfl,key L3 c4 (by omega) (by omega),?_⟩
  rw[q3w]
  exact⟨z8 [1] [1,5] rfl,trivial⟩
 generalize h4:L3++c4=L4 at hA
 have l4:L4.length=20:=by rw[← h4,k1y];omega
 refine u0 ⟨⟨59,[(1,.p (.box (Blk.mk k v a e q body).pv)),(5,.msl 0 1 0 (bx (L4++c5)).length)]⟩,[.row x6 1 (bx (L4++c5))]⟩ True (y7 hT ?_) (fun _=>?_)
 ·refine Q1 (Q5 w5 _ rfl rfl) ?_
  refine⟨rfl,key L4 c5 (by omega) (by omega),?_⟩
  rw[q3w]
  exact⟨z8 [1] [1,5] rfl,trivial⟩
 generalize h5:L4++c5=L5 at hA
 have l5:L5.length=22:=by rw[← h5,k1y];omega
 refine u0 ⟨⟨59,[(1,.p (.box (Blk.mk k v a e q body).pv)),(5,.msl 0 1 0 (bx (L5++[0,0])).length)]⟩,[.row x6 1 (bx (L5++[0,0]))]⟩ True (X6 (fun k=>Nat.beq 1 k) hT ?_) (fun _=>?_)
 ·refine⟨⟨rfl,rfl⟩,?_⟩
  refine⟨rfl,key L5 [0,0] (by omega) (by decide),?_⟩
  rw[q3w]
  exact⟨z8 [1] [1,5] rfl,trivial⟩
 generalize h6:L5++[0,0]=L6 at hA
 have l6:L6.length=24:=by rw[← h6,k1y];simp;omega
 refine u0 ⟨⟨59,[(5,.msl 0 1 0 (bx (L6++body)).length)]⟩,[.row x6 1 (bx (L6++body))]⟩ True (y7 hT ?_) (fun _=>?_)
 ·refine⟨rfl,key L6 body (by omega) (by omega),?_⟩
  rw[q3w]
  exact⟨z8 [1] [5] rfl,trivial⟩
 generalize h7:L6++body=L7 at hA
 have l7:L7.length=24+body.length:=by rw[← h7,k1y];omega
 have l7':L7.length≤252:=by omega
 rw[show 228 - body.length=252 - L7.length by omega]at hA
 clear h1 h2 h3 h4 h5 h6 h7
 refine u0 ⟨⟨59,[(5,.p (.sl 1 (bx A)))]⟩,[]⟩ True (x3 ?_) (fun _=>?_)
 ·refine Q3 (fun n s=>∃ L:x9,n+L.length=252∧A=L++List.replicate (252 - L.length) 0∧s=⟨⟨59,[(5,.msl 0 1 0 (bx L).length)]⟩,[.row x6 1 (bx L)]⟩) (252 - L7.length) ⟨⟨59,_⟩,[_]⟩ (z8 [0] [5] rfl) ⟨L7,by omega,hA,rfl⟩ ?_
  rintro n s ⟨L,hn,hAL,rfl⟩
  have hbL:=Z1 L
  refine u6 (y6 hT ?_)
  refine y8 (u9 (fun h=>?_) (fun h=>?_))
  ·have h:=k0z (show decide (((bx L).length:Int)<252)=true from h)
   refine x7 ?_
   refine x3 (X6 (fun k=>Nat.beq 1 k) hT ?_)
   refine⟨⟨rfl,rfl⟩,?_⟩
   refine⟨rfl,key L [0] (by omega) (by decide),?_⟩
   refine⟨n - 1,by omega,_,z8 [1] [5] rfl,L++[0],by rw[k1y];simp;omega,?_,by rw[q3w];rfl⟩
   rw[hAL,List.append_assoc,k1y,show ([0]:x9).length=1 from rfl,show 252 - L.length=252 - (L.length+1)+1 by omega,List.replicate_succ];rfl
  ·have h:=k0y (show decide (((bx L).length:Int)<252)=false from h)
   have h252:L.length=252:=by omega
   rw[h252,Nat.sub_self,List.replicate_zero,List.append_nil]at hAL
   refine Q7 ?_
   exact⟨Wk.trans (q1d 5 0 _ (by rw[hAL]) rfl rfl rfl) (z8 [] [5] rfl),trivial⟩
 refine y6 hT ?_
 refine Q1 (Q5 (w2z A (by omega)) _ rfl rfl) ?_
 refine u5 ?_
 exact x8 [] ⟨rfl,rfl⟩ rfl
theorem w3b (b:Blk):AF k0q z9a [b.av] [] (Q9 (.tup [bA b.sld.1,i64 b.sld.2]) []):=by
 cases hn:b.nums with
 |true=>
  cases hl:decide (b.body.length > 228) with
  |false=>
   have hl:=k0y hl
   have e:b.sld=(J5 b.all,0):=by unfold Blk.sld;rw[hn,k1s hl]
   obtain⟨k,v,a,e',q,hb,_,_,hv,ha,he,hq⟩:=y7e hn
   rw[e]
   rw[hb]at hn ⊢
   exact y9p k v a e' q b.body hn (by omega) hv ha he hq
  |true=>
   have e:b.sld=([],2):=by unfold Blk.sld;rw[hn,hl]
   have hbl:=Z1 b.body
   have hl:=k0z hl
   have wn:=q9x b
   rw[hn]at wn
   rw[e]
   refine Q8 hT Tryz.func58 rfl rfl Tryz.ntmps58 rfl ?_
   refine y6 hT ?_
   refine Z3 (Z4 0 b.pv rfl rfl) ?_
   refine y6 hT ?_
   refine Q1 (Q5 wn _ rfl rfl) ?_
   refine u6 (y6 hT ?_)
   refine y8 ?_
   refine x7 ?_
   refine u6 (y6 hT ?_)
   refine y8 (u9 (fun h=>?_) (fun h=>?_))
   ·refine y6 hT ?_
    refine Z3 (q0a 2 1 rfl) ?_
    refine u5 ?_
    exact x8 [] ⟨rfl,rfl⟩ rfl
   ·have h:=k0y (show decide (((bx b.body).length:Int) > 228)=false from h)
    omega
 |false=>
  have e:b.sld=([],1):=by unfold Blk.sld;rw[hn]
  have wn:=q9x b
  rw[hn]at wn
  rw[e]
  refine Q8 hT Tryz.func58 rfl rfl Tryz.ntmps58 rfl ?_
  refine y6 hT ?_
  refine Z3 (Z4 0 b.pv rfl rfl) ?_
  refine y6 hT ?_
  refine Q1 (Q5 wn _ rfl rfl) ?_
  refine u6 (y6 hT ?_)
  refine y8 ?_
  refine y6 hT ?_
  refine Z3 (q0a 2 1 rfl) ?_
  refine u5 ?_
  exact x8 [] ⟨rfl,rfl⟩ rfl
theorem q8i (l:x9):q3g (J5 l)=true:=by
 have h:=q3p l
 unfold q3g
 rw[k1t (show 4≤(J5 l).length by omega)]
 rw[show (J5 l).length - 4=l.length by omega]
 show ((J5 l).drop l.length==leB 4 (sum ((J5 l).take l.length)).toNat)=true
 unfold J5
 rw[List.drop_left,List.take_left]
 simp
end Go.Proofs.YtkjklhcfgbaceaaGreat.AL
namespace Go.Proofs.YtkjklhcfgbaceaaGreat.AL
open Go Go.Proofs
abbrev w64 (n:Int):AV:=.p (.raw (.int .u64 n))
abbrev inC (b:x9):ABlk:=.cells y1u [bA b]
theorem z6r (n:Int)(h0:0≤n)(h:n<18446744073709551616):IntKind.u64.wrap n=n:=by
 show n % 18446744073709551616=n
 omega
theorem v8m (b:x9)(_hb:b.length≤1000000):AFm k0q 1 z3z [.ref 0 0] [inC b] (Q9 (.tup [w64 (q1e b).1,i64 (q1e b).2.1,i64 (q1e b).2.2]) [inC b]):=by
 have hbl:=Z1 b
 refine Z6 1 hT Tryz.func206 rfl rfl Tryz.ntmps206 rfl rfl ?_
 refine y6 hT ?_
 refine u6 (y6 hT ?_)
 refine y8 ?_
 refine x7 ?_
 refine y6 hT ?_
 refine u6 (y6 hT ?_)
 refine x3 ?_
 refine Q3 (fun m s=>∃ (i:Nat) (j n p:Int) (N:Nat),m+i=b.length∧j=i∧i≤10∧n=(N:Nat)∧p=((128 ^ i:Nat):Int)∧N<128 ^ i∧q1e b=q2n i N (128 ^ i) (b.drop i)∧s=⟨⟨58,[(0,.ref 0 0),(5,w64 n),(6,w64 p),(14,bA b),(15,i64 (bx b).length),(16,i64 j)]⟩,[inC b]⟩) b.length ⟨⟨58,_⟩,[_]⟩ (z8 [0] [0,5,6,14,15,16] rfl) ⟨0,0,0,1,0,rfl,rfl,by omega,rfl,rfl,by simp,rfl,rfl⟩ ?_
 rintro m s ⟨i,j,n,p,N,hmi,rfl,hi10,hn,hp,hN,hlk,rfl⟩
 refine y6 hT ?_
 refine u6 (y8 (u9 (fun h=>?_) (fun h=>?_)))
 ·have hi:i<b.length:=by
   have:=k0z (show decide ((i:Int)<((bx b).length:Int))=true from h)
   omega
  have hx:=k0w hi
  have hdr:b.drop i=b[i] :: b.drop (i+1):=List.drop_eq_getElem_cons hi
  generalize b[i]=c at hx hdr
  have hxp:(bx b)[((i:Nat):Int).toNat]?=some [u8 c]:=by rw[k0u];exact y6y hx
  have hc:=c.toNat_lt
  refine x7 ?_
  rw[hdr]at hlk
  unfold q2n at hlk
  obtain⟨G,hG⟩:∃ G,G=(decide (i=10)||(decide (i=9)&&decide (c.toNat > 1))):=⟨_,rfl⟩
  rw[← hG]at hlk
  have e10:((i:Int)==10)=decide (i=10):=by
   by_cases e:i=10
   ·rw[k1t e,e];rfl
   ·rw[k1s e];exact beq_eq_false_iff_ne.mpr (by omega)
  have e9:((i:Int)==9)=decide (i=9):=by
   by_cases e:i=9
   ·rw[k1t e,e];rfl
   ·rw[k1s e];exact beq_eq_false_iff_ne.mpr (by omega)
  have ec:decide ((c.toNat:Int) > 1)=decide (c.toNat > 1):=decide_eq_decide.mpr (by omega)
  have ez:((c.toNat:Int)==0)=decide (c.toNat=0):=by
   by_cases e:c.toNat=0
   ·rw[k1t e,e];rfl
   ·rw[k1s e];exact beq_eq_false_iff_ne.mpr (by omega)
  have e8:decide ((c.toNat:Int)≥128)=decide (c.toNat≥128):=decide_eq_decide.mpr (by omega)
  have e0:decide ((i:Int) > 0)=decide (i > 0):=decide_eq_decide.mpr (by omega)
  refine u6 (x3 (y6 hT ?_))
  refine⟨k2w _,Z2 hxp ?_⟩
  refine u0 ⟨⟨58,[(0,.ref 0 0),(5,w64 n),(6,w64 p),(7,i64 i),(8,.p (u8 c))]⟩,[inC b]⟩ (q1e b=(N+c.toNat*128 ^ i,i+1,0)∧c.toNat<128∧(i=9→c.toNat≤1)∧i≤9) (x3 ?_) ?_
  ·refine u0 ⟨⟨58,[(0,.ref 0 0),(5,w64 n),(6,w64 p),(7,i64 i),(8,.p (u8 c)),(14,bA b),(15,i64 (bx b).length),(16,i64 i),(21,bl G)]⟩,[inC b]⟩ True (y6 hT ?_) (fun _=>?_)
   ·refine y8 (u9 (fun h1=>?_) (fun h1=>?_))
    ·have h1:((i:Int)==10)=true:=h1
     refine x7 ?_
     rw[show G=((i:Int)==10) by rw[hG,← e10,h1];rfl]
     exact⟨z8 [0] [0,5,6,7,8,14,15,16,21] rfl,trivial⟩
    ·have h1:((i:Int)==10)=false:=h1
     refine y7 hT ?_
     refine u9 (fun h2=>?_) (fun h2=>?_)
     ·have h2:((i:Int)==9)=true:=h2
      rw[show G=decide ((c.toNat:Int) > 1) by rw[hG,← e10,h1,← e9,h2,ec];rfl]
      exact⟨z8 [0] [0,5,6,7,8,14,15,16,21] rfl,trivial⟩
     ·have h2:((i:Int)==9)=false:=h2
      rw[show G=false by rw[hG,← e10,h1,← e9,h2];rfl]
      exact⟨z8 [0] [0,5,6,7,8,14,15,16,21] rfl,trivial⟩
   ·refine y8 (u9 (fun h1=>?_) (fun h1=>?_))
    ·have h1:G=true:=h1
     rw[h1]at hlk
     refine y6 hT ?_
     refine u5 ?_
     rw[hlk]
     exact x8 [0] ⟨rfl,rfl⟩ rfl
    ·have h1:G=false:=h1
     rw[h1]at hlk hG
     have go:(i=9→c.toNat≤1)∧i≤9:=by
      have h:=hG.symm
      rw[Bool.or_eq_false_iff,Bool.and_eq_false_iff]at h
      have a1:=k0y h.1
      refine⟨fun e=>?_,by omega⟩
      rcases h.2 with h|h
      ·exact absurd e (k0y h)
      ·have:=k0y h;omega
     refine y6 hT ?_
     refine y8 (u9 (fun h2=>?_) (fun h2=>?_))
     ·have h2:decide ((c.toNat:Int)≥128)=true:=h2
      rw[e8]at h2
      rw[h2]at hlk
      have h2:=k0z h2
      have i8:i≤8:=by
       rcases Nat.lt_or_ge i 9 with h|h
       ·omega
       ·have:=go.1 (by omega);omega
      have hpw:128 ^ i≤128 ^ 8:=Nat.pow_le_pow_right (by omega) i8
      have hmul:(c.toNat - 128)*128 ^ i≤127*128 ^ i:=k2v _ (by omega)
      have hsum:N+(c.toNat - 128)*128 ^ i<128 ^ (i+1):=by rw[Nat.pow_succ];omega
      have v1:IntKind.u64.wrap (n+IntKind.u64.wrap (IntKind.u64.wrap (IntKind.u8.wrap ((c.toNat:Int) - 128))*p))=((N+(c.toNat - 128)*128 ^ i:Nat):Int):=by
       rw[show IntKind.u8.wrap ((c.toNat:Int) - 128)=((c.toNat - 128:Nat):Int) by show ((c.toNat:Int) - 128) % 256=_;omega]
       rw[z6r ((c.toNat - 128:Nat):Int) (by omega) (by omega),hp,← Int.natCast_mul,z6r (((c.toNat - 128)*128 ^ i:Nat):Int) (by omega) (by omega),hn,z6r _ (by omega) (by omega)]
       omega
      have v2:IntKind.u64.wrap (p*128)=((128 ^ (i+1):Nat):Int):=by
       rw[hp,Nat.pow_succ]
       generalize 128 ^ i=Q at hpw
       rw[z6r _ (by omega) (by omega)]
       omega
      refine y6 hT ?_
      refine y6 hT ?_
      refine Q7 ?_
      refine y7 hT ?_
      refine⟨m - 1,by omega,_,z8 [0] [0,5,6,14,15,16] rfl,i+1,IntKind.i64.wrap ((i:Int)+1),_,_,N+(c.toNat - 128)*128 ^ i,by omega,?_,by omega,v1,v2,hsum,?_,rfl⟩
      ·rw[Q0 _ (by omega) (by omega)];rfl
      ·rw[hlk,Nat.pow_succ]
     ·have h2:decide ((c.toNat:Int)≥128)=false:=h2
      rw[e8]at h2
      rw[h2]at hlk
      have h2:=k0y h2
      refine y6 hT ?_
      refine u9 (fun h3=>?_) (fun h3=>?_)
      ·have h3:((c.toNat:Int)==0)=true:=h3
       rw[ez]at h3
       rw[h3]at hlk
       refine y8 (u9 (fun h4=>?_) (fun h4=>?_))
       ·have h4:decide ((i:Int) > 0)=true:=h4
        rw[e0]at h4
        rw[h4]at hlk
        refine y6 hT ?_
        refine u5 ?_
        rw[hlk]
        exact x8 [0] ⟨rfl,rfl⟩ rfl
       ·have h4:decide ((i:Int) > 0)=false:=h4
        rw[e0]at h4
        rw[h4]at hlk
        exact x7 ⟨z8 [0] [0,5,6,7,8] rfl,hlk,by omega,go⟩
      ·have h3:((c.toNat:Int)==0)=false:=h3
       rw[ez]at h3
       rw[h3]at hlk
       refine y8 ?_
       exact x7 ⟨z8 [0] [0,5,6,7,8] rfl,hlk,by omega,go⟩
  ·rintro⟨hlk,h128,h9,hi9⟩
   have hb2:N+c.toNat*128 ^ i<18446744073709551616∧c.toNat*128 ^ i<18446744073709551616:=by
    rcases Nat.lt_or_ge i 9 with h8|h8
    ·have h1:128 ^ i≤128 ^ 8:=Nat.pow_le_pow_right (by omega) (by omega)
     have h2:c.toNat*128 ^ i≤127*128 ^ 8:=Nat.mul_le_mul (by omega) h1
     omega
    ·have hi:i=9:=by omega
     have h1:=h9 hi
     subst hi
     have h2:c.toNat*128 ^ 9≤1*128 ^ 9:=k2v _ h1
     omega
   have v1:IntKind.u64.wrap (n+IntKind.u64.wrap (IntKind.u64.wrap (c.toNat:Int)*p))=((N+c.toNat*128 ^ i:Nat):Int):=by
    rw[z6r (c.toNat:Int) (by omega) (by omega),hp,← Int.natCast_mul,z6r ((c.toNat*128 ^ i:Nat):Int) (by omega) (by omega),hn,z6r _ (by omega) (by omega)]
    omega
   have v2:IntKind.i64.wrap ((i:Int)+1)=((i+1:Nat):Int):=by rw[Q0 _ (by omega) (by omega)];rfl
   refine y6 hT ?_
   refine u5 ?_
   rw[hlk]
   show ∃ u2 H2,_∧Q9 (.tup [w64 ((N+c.toNat*128 ^ i:Nat):Int),i64 ((i+1:Nat):Int),i64 0]) [inC b] u2 H2
   rw[← v1,← v2]
   exact x8 [0] ⟨rfl,rfl⟩ rfl
 ·have hi:¬ (i:Int)<((bx b).length:Int):=k0y h
  have hib:i=b.length:=by omega
  rw[List.drop_eq_nil_of_le (by omega)]at hlk
  refine Q7 ?_
  refine y6 hT ?_
  refine u5 ?_
  rw[hlk]
  exact x8 [0] ⟨rfl,rfl⟩ rfl
theorem v8n (b:x9):q1b b=match decide ((q1e b).2.2=0)&&decide ((q1e b).1≥2 ^ 63) with|true=>(0,0,7)|false=>((q1e b).1,(q1e b).2.1,(q1e b).2.2):=by
 unfold q1b;rfl
theorem v5e (b:x9)(hb:b.length≤1000000):AFm k0q 1 q9v [.ref 0 0] [inC b] (Q9 (.tup [i64 (q1b b).1,i64 (q1b b).2.1,i64 (q1b b).2.2]) [inC b]):=by
 have w:=v8m b hb
 have hlt:=x7x (b:=b)
 have hz:(q1e b).2.2≠0→(q1e b).1=0:=fun h=>(z5n b 0 0 1 h).1
 have hN:=v8n b
 generalize q1b b=Z at hN
 generalize q1e b=Y at w hlt hz hN
 obtain⟨n,k,e⟩:=Y
 have hN:Z=match decide (e=0)&&decide (n≥2 ^ 63) with|true=>(0,0,7)|false=>(n,k,e):=hN
 have w:AFm k0q 1 z3z [.ref 0 0] [inC b] (Q9 (.tup [w64 n,i64 k,i64 e]) [inC b]):=w
 have hlt:e=0→n<2 ^ 64:=fun h=>(hlt h).2.2.2.2
 have hz:e≠0→n=0:=hz
 refine Z6 1 hT Tryz.func171 rfl rfl Tryz.ntmps171 rfl rfl ?_
 refine y6 hT ?_
 refine y6 hT ?_
 refine Q1 (Z7 [0] w rfl rfl rfl) ?_
 refine u0 ⟨⟨24,[(5,w64 n),(6,i64 k),(7,i64 e)]⟩,[inC b]⟩ ((decide (e=0)&&decide (n≥2 ^ 63))=false) (y6 hT ?_) ?_
 ·have ee:(e==0)=decide (e=0):=by
   by_cases h:e=0
   ·rw[k1t h,h];rfl
   ·rw[k1s h];exact beq_eq_false_iff_ne.mpr h
  have en:decide ((n:Int)≥9223372036854775808)=decide (n≥2 ^ 63):=decide_eq_decide.mpr (by omega)
  refine u9 (fun h1=>?_) (fun h1=>?_)
  ·have h1:(e==0)=true:=h1
   rw[ee]at h1
   refine y8 (u9 (fun h2=>?_) (fun h2=>?_))
   ·have h2:decide ((n:Int)≥9223372036854775808)=true:=h2
    rw[en]at h2
    refine y6 hT ?_
    refine u5 ?_
    rw[h1,h2]at hN
    have hN:Z=(0,0,7):=hN
    subst hN
    exact x8 [0] ⟨rfl,rfl⟩ rfl
   ·have h2:decide ((n:Int)≥9223372036854775808)=false:=h2
    rw[en]at h2
    exact x7 ⟨z8 [0] [5,6,7] rfl,by rw[h1,h2];rfl⟩
  ·have h1:(e==0)=false:=h1
   rw[ee]at h1
   refine y8 ?_
   exact x7 ⟨z8 [0] [5,6,7] rfl,by rw[h1];rfl⟩
 ·intro h
  rw[h]at hN
  have hN:Z=(n,k,e):=hN
  subst hN
  have hn:n<2 ^ 63:=by
   by_cases he:e=0
   ·rw[k1t he,Bool.true_and]at h
    have:=k0y h;omega
   ·rw[hz he];omega
  have v:IntKind.i64.wrap (n:Int)=n:=Q0 _ (by omega) (by omega)
  refine y6 hT ?_
  refine u5 ?_
  show ∃ u2 H2,_∧Q9 (.tup [i64 (n:Int),i64 k,i64 e]) [inC b] u2 H2
  rw[show i64 (n:Int)=i64 (IntKind.i64.wrap (n:Int)) by rw[v]]
  exact x8 [0] ⟨rfl,rfl⟩ rfl
theorem v5f (b:x9):(q1b b).2.1≤b.length∧((q1b b).2.2≠0→(q1b b).2.1=0):=by
 have hok:=x7x (b:=b)
 have hz:(q1e b).2.2≠0→(q1e b).2.1=0:=fun h=>(z5n b 0 0 1 h).2
 unfold q1b
 generalize q1e b=Y at hok hz
 obtain⟨n,k,e⟩:=Y
 have hok:e=0→k≤b.length:=fun h=>(hok h).2.1
 have hz:e≠0→k=0:=hz
 show (match decide (e=0)&&decide (n≥2 ^ 63) with|true=>(0,0,7)|false=>(n,k,e):Nat × Nat × Int).2.1≤_∧((match decide (e=0)&&decide (n≥2 ^ 63) with|true=>(0,0,7)|false=>(n,k,e):Nat × Nat × Int).2.2≠0→(match decide (e=0)&&decide (n≥2 ^ 63) with|true=>(0,0,7)|false=>(n,k,e):Nat × Nat × Int).2.1=0)
 cases decide (e=0)&&decide (n≥2 ^ 63) with
 |true=>exact⟨Nat.zero_le _,fun _=>rfl⟩
 |false=>
  refine⟨?_,hz⟩
  show k≤_
  by_cases he:e=0
  ·exact hok he
  ·rw[hz he];exact Nat.zero_le _
theorem u1z (b:x9)(hb:b.length≤1000000):AFm k0q 1 z6p [.ref 0 0] [inC b] (Q9 (.tup [i64 (q1b b).1,i64 (q1b b).2.2]) [inC (b.drop (q1b b).2.1)]):=by
 have w:=v5e b hb
 have hk:=v5f b
 generalize q1b b=Y at w hk
 obtain⟨n,k,e⟩:=Y
 have w:AFm k0q 1 q9v [.ref 0 0] [inC b] (Q9 (.tup [i64 n,i64 k,i64 e]) [inC b]):=w
 have hk1:k≤b.length:=hk.1
 have hk2:e≠0→k=0:=hk.2
 have hbl:=Z1 b
 refine Z6 1 hT Tryz.func130 rfl rfl Tryz.ntmps130 rfl rfl ?_
 refine y6 hT ?_
 refine y6 hT ?_
 refine Q1 (Z7 [0] w rfl rfl rfl) ?_
 refine u0 ⟨⟨26,[(4,i64 n),(6,i64 e)]⟩,[inC (b.drop k)]⟩ True (y6 hT ?_) (fun _=>?_)
 ·refine y8 (u9 (fun h=>?_) (fun h=>?_))
  ·refine y7 hT ?_
   refine⟨⟨k2w _,by omega⟩,?_⟩
   show _∧True
   rw[show inC (b.drop k)=.cells y1u [.p (.sl 1 (((bx b).take ((bx b).length:Int).toNat).drop ((k:Nat):Int).toNat))] by rw[k0u,k0u,List.take_length,← z1y]]
   exact⟨z8 [0] [4,6] rfl,trivial⟩
  ·have h:(e==0)=false:=h
   have he:e≠0:=by intro e0;rw[e0]at h;exact absurd h (by decide)
   rw[hk2 he,List.drop_zero]
   exact x7 ⟨z8 [0] [4,6] rfl,trivial⟩
 ·refine y6 hT ?_
  refine u5 ?_
  exact x8 [0] ⟨rfl,rfl⟩ rfl
theorem w5v (n:Nat)(h:n<2 ^ 63):(q0f n).length≤9:=q5p 8 n (by rw[show (128:Nat) ^ 9=2 ^ 63 by decide];exact h)
abbrev v8p (at_:Nat)(b:x9):ABlk:=.cells z7m [.msl at_ 1 0 (bx b).length]
abbrev z7u (b:x9):List ABlk:=[v8p 1 b,.row x6 1 (bx b)]
theorem x8f (n:Int):AF k0q y9j [w64 n] [] (Q9 (.clo (.func z2v) [.ref 0 0]) [.cells z9k [w64 n]]):=by
 refine Q8 hT Tryz.func196 rfl rfl Tryz.ntmps196 rfl ?_
 refine y6 hT ?_
 refine y6 hT ?_
 refine u5 ?_
 exact x8 [0] ⟨rfl,rfl⟩ rfl
abbrev z4e (L:ABlk)(x:x9 × Int):List ABlk:=[v8p 4 x.1,.cells z1s [.ref 0 0],.cells z9k [w64 x.2],L,.row x6 1 (bx x.1)]
abbrev u3t (L:ABlk)(x:x9 × Int):List ABlk:=[v8p 5 x.1,.cells z1s [.ref 0 0],.cells z9k [w64 x.2],L,.dead,.row x6 1 (bx x.1)]
theorem w5w {args:List AV}{q:RecK}{l:List AV}{b b':x9}{m:Int}(hl:J0 4 l=true)(ha:J0 0 args=true)(h:AYm k0q 4 3 args (z4e (.lp q .ready none l) (b,m)) (fun r H'=>r=bl true∧H'=z4e (.lp q .ready none l) (b',m))) :
 AY k0q 3 args (z4e (.lp q .ready none l) (b,m)) (fun r H'=>r=bl true∧H'=u3t (.lp q .ready none l) (b',m)):=by
 have hid:∀ c,c<4→rho 5 [0,1,2,3,4] c=c:=fun c hc=>by
  rcases c with _|_|_|_|c
  ·rfl
  ·rfl
  ·rfl
  ·rfl
  ·omega
 have hid2:∀ c,c<4→q1g 5 [0,1,2,3] c=c:=fun c hc=>by
  rcases c with _|_|_|_|c
  ·rfl
  ·rfl
  ·rfl
  ·rfl
  ·omega
 refine v3k [0,1,2,3,4] h ⟨rfl,by decide,?_⟩ (show ∀ p∈[0,1,2,3,4],p<5 by decide) (by decide) rfl (q2t (fun c hc=>absurd hc (by omega)) args ha).symm ?_
 ·intro c k hk
  right
  rcases c with _|_|_|_|_|c
  ·obtain rfl:=k0x hk;exact⟨0,rfl,rfl⟩
  ·obtain rfl:=k0x hk;exact⟨1,rfl,rfl⟩
  ·obtain rfl:=k0x hk;exact⟨2,rfl,rfl⟩
  ·obtain rfl:=k0x hk
   refine⟨3,rfl,?_⟩
   show some (ABlk.lp q .ready none l)=some (ABlk.lp q .ready none (q3c (rho 5 [0,1,2,3,4]) l))
   rw[q2t hid l hl]
  ·obtain rfl:=k0x hk;exact⟨4,rfl,rfl⟩
  ·simp at hk
 ·rintro r1 H1' ⟨rfl,rfl⟩
  refine⟨show 4≤5 by decide,rfl,?_⟩
  show [_,_,_,ABlk.lp q .ready none (q3c (q1g 5 [0,1,2,3]) l),_,_]=_
  rw[q2t hid2 l hl]
  rfl
theorem w3c (q:RecK)(l:List AV)(b0:x9)(n:Nat)(hn:n<2 ^ 64)(hl:J0 4 l=true)
 (hy:∀ (b:x9) (m:Int) (c:UInt8),b.length≤b0.length+9→AYm k0q 4 3 [.p (u8 c)] (z4e (.lp q .ready none l) (b,m)) (fun r H'=>r=bl true∧H'=z4e (.lp q .ready none l) (b++[c],m))) :
 AFm k0q 4 z2v [.yld 3,.ref 2 0] (z4e (.lp q .ready none l) (b0,n)) (fun _ H'=>∃ m,H'=z4e (.lp q .ready none l) (b0++q0f n,m)):=by
 refine Z6 4 hT Tryz.func221 rfl rfl Tryz.ntmps221 rfl rfl ?_
 refine Q4 (fun s=>∃ (b:x9) (m:Nat) (v:Int),v=m∧m<128∧b.length≤b0.length+9∧b++[UInt8.ofNat m]=b0++q0f n∧s=⟨⟨18,[(0,.yld 3),(1,.ref 2 0)]⟩,z4e (.lp q .ready none l) (b,v)⟩) (x3 ?_) ?_
 ·refine Q3 (fun k s=>∃ (b:x9) (m:Nat) (v:Int),v=m∧k=m∧m<2 ^ 64∧(∃ j,b.length+j≤b0.length+9∧m<128 ^ (j+1))∧b++q0f m=b0++q0f n∧s=⟨⟨18,[(0,.yld 3),(1,.ref 2 0)]⟩,z4e (.lp q .ready none l) (b,v)⟩) n ⟨⟨18,_⟩,_⟩ (y4e [0,1]) ⟨b0,n,_,rfl,rfl,hn,⟨9,by omega,by omega⟩,rfl,rfl⟩ ?_
  rintro k s ⟨b,m,v,hv,rfl,hm,⟨j,hj,hmj⟩,hbn,rfl⟩
  refine u6 (y6 hT ?_)
  refine y8 (u9 (fun h=>?_) (fun h=>?_))
  ·have h:=k0z (show decide (v≥128)=true from h)
   have hm128:¬ k<128:=by omega
   rw[x4e hm128]at hbn
   refine x7 ?_
   have hj0:0<j:=by
    rcases Nat.eq_zero_or_pos j with rfl|h0
    ·omega
    ·exact h0
   obtain⟨j,rfl⟩:∃ i,j=i+1:=⟨j - 1,by omega⟩
   have y:AYm k0q 4 3 [.p (.raw (.int .u8 (IntKind.u8.wrap (IntKind.u8.wrap (v.tmod ((128:Nat):Int))+128))))] (z4e (.lp q .ready none l) (b,v)) (fun r H'=>r=bl true∧H'=z4e (.lp q .ready none l) (b++[UInt8.ofNat (k % 128+128)],v)):=by
    have e:IntKind.u8.wrap (IntKind.u8.wrap (v.tmod ((128:Nat):Int))+128)=((UInt8.ofNat (k % 128+128)).toNat:Int):=by
     rw[hv,y7b,← q3f]
     show (((k % 128:Nat):Int) % 256+128) % 256=((k % 128+128:Nat):Int) % 256
     omega
    rw[e]
    exact hy b v _ (by omega)
   refine x3 (u6 (y6 hT ?_))
   refine⟨_,w5w hl rfl y,?_⟩
   rintro r H' ⟨rfl,rfl⟩
   refine y8 ?_
   refine x7 ?_
   refine y7 hT ?_
   have hdiv:k / 128<128 ^ (j+1):=by rw[Nat.pow_succ]at hmj;exact Nat.div_lt_of_lt_mul (by rw[Nat.mul_comm];exact hmj)
   refine⟨k / 128,by omega,_,U9 3 [0,1,2,3,5] [0,1] _ rfl hl rfl rfl rfl,b++[UInt8.ofNat (k % 128+128)],k / 128,IntKind.u64.wrap (v.tdiv 128),?_,rfl,by omega,⟨j,by rw[k1y];simp;omega,hdiv⟩,by rw[List.append_assoc];exact hbn,rfl⟩
   rw[hv,Int.tdiv_eq_ediv_of_nonneg (k2w _),z6r _ (by omega) (by omega)]
   omega
  ·have h:=k0y (show decide (v≥128)=false from h)
   have hm128:k<128:=by omega
   rw[y4i hm128]at hbn
   refine Q7 ?_
   refine⟨_,y4e [0,1],b,k,v,hv,hm128,by omega,hbn,rfl⟩
 ·rintro s ⟨b,m,v,hv,hm,hb,hbn,rfl⟩
  have y:AYm k0q 4 3 [.p (.raw (.int .u8 (IntKind.u8.wrap v)))] (z4e (.lp q .ready none l) (b,v)) (fun r H'=>r=bl true∧H'=z4e (.lp q .ready none l) (b++[UInt8.ofNat m],v)):=by
   rw[hv,q3f]
   exact hy b _ _ hb
  refine y7 hT ?_
  refine⟨_,w5w hl rfl y,?_⟩
  rintro r H' ⟨rfl,rfl⟩
  exact⟨_,_,U9 3 [0,1,2,3,5] [0] _ rfl hl rfl rfl rfl,v,by rw[← hbn];rfl⟩
theorem w5x (b0:x9)(n:Nat)(hn:n<2 ^ 64)(hb:b0.length≤1000000):AFm k0q 1 y6c [.ref 0 0,w64 n] (z7u b0) (Q9 (.tup []) (z7u (b0++q0f n))):=by
 refine Z6 1 hT Tryz.func159 rfl rfl Tryz.ntmps159 rfl rfl ?_
 refine y6 hT ?_
 refine y6 hT ?_
 refine Q1 (q1h (x8f n) _ rfl) ?_
 refine x3 ?_
 have hlen:(q0f n).length≤10:=q5p 9 n (by omega)
 refine z1k 3 18 [0,2,3,4,1] [2,6] z4e (fun L (_:Unit)=>z4e L (b0,0)) (b0,(n:Int)) (fun x=>x.1=b0++q0f n) (fun _ _=>False) rfl rfl (fun L _=>⟨rfl,fun _=>rfl⟩) (fun L _=>⟨rfl,fun _=>rfl⟩) rfl ?_ ?_ ?_
 ·refine AFm.mono (w3c _ _ b0 n hn (z1t (by rfl)) ?_) ?_
  ·intro b m c hbl
   refine AYm.mono (y1x (J:=z4e) (Z:=fun L (_:Unit)=>z4e L (b0,0)) (a:=(b,m)) (Rnd:=fun x=>x=(b++[c],m)) (Stp:=fun _ _=>False) (fun L _=>⟨rfl,fun _=>rfl⟩) (fun L _=>⟨rfl,fun _=>rfl⟩) ?_ ?_ rfl rfl ?_) ?_
   ·exact fun t u ht=>z3u (ks:=[2,6]) rfl ht
   ·show ∀ p∈[7],p<18
    decide
   ·intro B l hl
    refine y7 hT ?_
    refine⟨rfl,?_⟩
    refine x3 ?_
    refine Z0 [6,7,10] [] hT u7 (by rfl) ?_
    have hb2:=Z1 b
    refine⟨rfl,⟨?_,?_⟩,?_⟩
    ·show ((bx b).length+1)*1≤140737488355328
     omega
    ·show (bx b).length+1≤140737488355328
     omega
    refine⟨rfl,?_⟩
    refine⟨rfl,?_⟩
    refine⟨rfl,?_⟩
    refine⟨rfl,?_⟩
    refine⟨(b++[c],m),⟨18,[]⟩,rfl,?_⟩
    show Wk _ _ ⟨_,[.cells z7m [.msl 4 1 0 (bx (b++[c])).length],.cells z1s [.ref 0 0],.cells z9k [w64 m],_,.row x6 1 (bx (b++[c]))]⟩
    rw[z9r]
    exact U9 3 [0,1,2,3,6] [] _ rfl hl rfl rfl rfl
   ·rintro r H' (⟨hr,a',rfl,hH⟩|⟨hr,c,z,h3,hH⟩)
    ·exact⟨hr,hH⟩
    ·exact h3.elim
  ·rintro r H' ⟨m,rfl⟩
   exact .inl ⟨(b0++q0f n,m),rfl,rfl⟩
 ·rintro⟨b,m⟩ hb'
  have hb':b=b0++q0f n:=hb'
  subst hb'
  exact x8 [0,4] ⟨rfl,rfl⟩ rfl
 ·intro _ _ h;exact h.elim
theorem w5y (b:x9)(n:Nat)(hn:n<2 ^ 63)(hb:b.length≤1000000):AFm k0q 1 y6a [.ref 0 0,i64 n] (z7u b) (Q9 (i64 0) (z7u (b++q0f n))):=by
 have w:=w5x b n (by omega) hb
 obtain⟨v,hv⟩:∃ v:Int,v=n:=⟨_,rfl⟩
 rw[← hv]at w ⊢
 rw[← z6r v (by omega) (by omega)]at w
 refine Z6 1 hT Tryz.func110 rfl rfl Tryz.ntmps110 rfl rfl ?_
 refine y6 hT ?_
 refine u6 (y6 hT ?_)
 refine y8 (u9 (fun h=>?_) (fun h=>?_))
 ·have h:=k0z (show decide (v<0)=true from h)
  omega
 refine x7 ?_
 refine y6 hT ?_
 refine Q1 (Z7 [0,1] w rfl rfl rfl) ?_
 refine y6 hT ?_
 refine u5 ?_
 exact x8 [0,2] ⟨rfl,rfl⟩ rfl
theorem w5z (b:x9)(hb:b.length≤1000000):AFm k0q 2 y6b [.ref 0 0] (z7u b) (Q9 (bA b) (z7u b)):=by
 refine Z6 2 hT Tryz.func111 rfl rfl Tryz.ntmps111 rfl rfl ?_
 refine y6 hT ?_
 refine u6 (y6 hT ?_)
 refine y8 ?_
 refine x7 ?_
 refine y6 hT ?_
 have flat:v3i [ABlk.row x6 1 (bx b)]:=by
  intro k hk
  simp only[List.mem_singleton]at hk
  subst hk
  intro e he u hu
  simp only[bx,List.mem_map]at he
  obtain⟨c,_,rfl⟩:=he
  simp only[List.mem_singleton]at hu
  subst hu
  trivial
 refine Q1 (z5k (x0y b hb) 1 rfl ⟨.inr (.inl ⟨rfl,rfl⟩),trivial⟩ rfl flat) ?_
 refine Z3 (q1d 2 2 _ rfl (Z1 b).symm rfl rfl) ?_
 refine u5 ?_
 exact x8 [0,1] ⟨rfl,rfl⟩ rfl
theorem w3d (b:x9)(hb:b.length≤1000000):AF k0q x3y [bA b] [] (Q9 (.ref 0 0) [inC b]):=by
 refine Q8 hT Tryz.func129 rfl rfl Tryz.ntmps129 rfl ?_
 refine y6 hT ?_
 refine y6 hT ?_
 refine Q1 (Q5 (z0f b hb) _ rfl rfl) ?_
 refine u5 ?_
 exact x8 [0] ⟨rfl,rfl⟩ rfl
def inR (n lo hi:Int):Bool:=decide (n≥lo)&&decide (n≤hi)
theorem x4g (n lo hi:Int):AF k0q v3w [i64 n,i64 lo,i64 hi] [] (Q9 (bl (inR n lo hi)) []):=by
 refine Q8 hT Tryz.func117 rfl rfl Tryz.ntmps117 rfl ?_
 refine y6 hT ?_
 unfold inR
 refine y6 hT ?_
 refine u9 (fun h=>?_) (fun h=>?_)
 ·rw[show decide (n≥lo)=true from h]
  refine u5 ?_
  exact x8 [] ⟨rfl,rfl⟩ rfl
 ·rw[show decide (n≥lo)=false from h]
  refine u5 ?_
  exact x8 [] ⟨rfl,rfl⟩ rfl
structure GeoV where
 w:Int
 s:Int
 k:Int
 m:Int
 deriving DecidableEq
abbrev GeoV.pv (g:GeoV):List PV:=[.raw (.int .i64 g.w),.raw (.int .i64 g.s),.raw (.int .i64 g.k),.raw (.int .i64 g.m)]
abbrev GeoV.av (g:GeoV):AV:=.agg [i64 g.w,i64 g.s,i64 g.k,i64 g.m]
def GeoV.fits (g:GeoV):Bool:=inR g.w 8 512&&inR g.s 1 32&&inR g.k 1 16&&inR g.m 1 8
def GeoV.may (g:GeoV):Bool:=g.fits&&decide (4+2*g.w+2*g.s*(g.k+g.m)≤4096)
def GeoV.room (g:GeoV):Int:=match g.may with|true=>g.s*g.k*228|false=>0
theorem V7 {g:GeoV}(h:g.fits=true):8≤g.w∧g.w≤512∧1≤g.s∧g.s≤32∧1≤g.k∧g.k≤16∧1≤g.m∧g.m≤8:=by
 unfold GeoV.fits inR at h
 simp only[Bool.and_eq_true,decide_eq_true_eq]at h
 omega
theorem z0j {g:GeoV}(h:g.fits=true):0≤g.s*(g.k+g.m)∧g.s*(g.k+g.m)≤768∧0≤g.s*g.k∧g.s*g.k≤512∧2*g.s*(g.k+g.m)=2*(g.s*(g.k+g.m)):=by
 obtain⟨h1,h2,h3,h4,h5,h6,h7,h8⟩:=V7 h
 have a:=Int.mul_le_mul (show g.s≤32 from h4) (show g.k+g.m≤24 by omega) (by omega) (by omega)
 have b:=Int.mul_le_mul (show g.s≤32 from h4) (show g.k≤16 by omega) (by omega) (by omega)
 exact⟨Int.mul_nonneg (by omega) (by omega),by omega,Int.mul_nonneg (by omega) (by omega),by omega,Int.mul_assoc _ _ _⟩
theorem y3a (g:GeoV)(h:g.fits=true):AF k0q z6n [g.av] [] (Q9 (i64 (4+2*g.w+2*g.s*(g.k+g.m))) []):=by
 obtain⟨h1,h2,h3,h4,h5,h6,h7,h8⟩:=V7 h
 obtain⟨m1,m2,m3,m4,m5⟩:=z0j h
 have wl:AF k0q z9d [g.av] [] (Q9 (i64 (4+2*g.w)) []):=by
  refine Q8 hT Tryz.func82 rfl rfl Tryz.ntmps82 rfl ?_
  refine y6 hT ?_
  refine Z3 (Z4 0 g.pv rfl rfl) ?_
  refine y6 hT ?_
  refine u5 ?_
  rw[show i64 (4+2*g.w)=i64 (IntKind.i64.wrap (4+IntKind.i64.wrap (2*g.w))) by rw[Q0 (2*g.w) (by omega) (by omega),Q0 _ (by omega) (by omega)]]
  exact x8 [] ⟨rfl,rfl⟩ rfl
 have ww:AF k0q y5y [g.av] [] (Q9 (i64 (g.k+g.m)) []):=by
  refine Q8 hT Tryz.func83 rfl rfl Tryz.ntmps83 rfl ?_
  refine y6 hT ?_
  refine Z3 (Z4 0 g.pv rfl rfl) ?_
  refine y6 hT ?_
  refine u5 ?_
  rw[show i64 (g.k+g.m)=i64 (IntKind.i64.wrap (g.k+g.m)) by rw[Q0 _ (by omega) (by omega)]]
  exact x8 [] ⟨rfl,rfl⟩ rfl
 refine Q8 hT Tryz.func118 rfl rfl Tryz.ntmps118 rfl ?_
 refine y6 hT ?_
 refine Z3 (Z4 0 g.pv rfl rfl) ?_
 refine u6 ?_
 refine Z0 [] [] hT u7 (by rfl) ?_
 refine⟨_,Q5 wl _ rfl rfl,?_⟩
 refine⟨_,Q5 ww _ rfl rfl,?_⟩
 refine u5 ?_
 rw[show i64 (4+2*g.w+2*g.s*(g.k+g.m))=i64 (IntKind.i64.wrap (4+2*g.w+IntKind.i64.wrap (IntKind.i64.wrap (2*g.s)*(g.k+g.m)))) by
  rw[Q0 (2*g.s) (by omega) (by omega),Q0 (2*g.s*(g.k+g.m)) (by omega) (by omega),Q0 _ (by omega) (by omega)]]
 exact x8 [] ⟨rfl,rfl⟩ rfl
theorem q9g (g:GeoV):AF k0q w7u [g.av] [] (Q9 (bl g.may) []):=by
 refine Q8 hT Tryz.func63 rfl rfl Tryz.ntmps63 rfl ?_
 refine y6 hT ?_
 refine Z3 (Z4 0 g.pv rfl rfl) ?_
 refine u0 ⟨⟨28,[(1,.p (.box g.pv)),(3,bl g.fits)]⟩,[]⟩ True (y7 hT ?_) (fun _=>?_)
 ·unfold GeoV.fits
  refine Q1 (Q5 (x4g g.w 8 512) _ rfl rfl) ?_
  refine u9 (fun h=>?_) (fun h=>?_)
  ·rw[show inR g.w 8 512=true from h]
   refine Q1 (Q5 (x4g g.s 1 32) _ rfl rfl) ?_
   refine u9 (fun h=>?_) (fun h=>?_)
   ·rw[show inR g.s 1 32=true from h]
    refine Q1 (Q5 (x4g g.k 1 16) _ rfl rfl) ?_
    refine u9 (fun h=>?_) (fun h=>?_)
    ·rw[show inR g.k 1 16=true from h]
     refine Q1 (Q5 (x4g g.m 1 8) _ rfl rfl) ?_
     exact⟨z8 [] [1,3] rfl,trivial⟩
    ·rw[show inR g.k 1 16=false from h]
     exact⟨z8 [] [1,3] rfl,trivial⟩
   ·rw[show inR g.s 1 32=false from h]
    exact⟨z8 [] [1,3] rfl,trivial⟩
  ·rw[show inR g.w 8 512=false from h]
   exact⟨z8 [] [1,3] rfl,trivial⟩
 unfold GeoV.may
 refine y6 hT ?_
 refine u9 (fun h=>?_) (fun h=>?_)
 ·have h:g.fits=true:=h
  rw[h]
  refine Q1 (Q5 (y3a g h) _ rfl rfl) ?_
  refine u5 ?_
  exact x8 [] ⟨rfl,rfl⟩ rfl
 ·rw[show g.fits=false from h]
  refine u5 ?_
  exact x8 [] ⟨rfl,rfl⟩ rfl
theorem w8p (g:GeoV)(h:g.fits=true):AF k0q z9i [g.av] [] (Q9 (i64 (g.s*g.k*228)) []):=by
 obtain⟨m1,m2,m3,m4,m5⟩:=z0j h
 refine Q8 hT Tryz.func160 rfl rfl Tryz.ntmps160 rfl ?_
 refine y6 hT ?_
 refine Z3 (Z4 0 g.pv rfl rfl) ?_
 refine y6 hT ?_
 refine u5 ?_
 rw[show i64 (g.s*g.k*228)=i64 (IntKind.i64.wrap (IntKind.i64.wrap (g.s*g.k)*228)) by
  rw[Q0 (g.s*g.k) (by omega) (by omega),Q0 _ (by omega) (by omega)]]
 exact x8 [] ⟨rfl,rfl⟩ rfl
theorem y7f (g:GeoV):AF k0q w2g [g.av] [] (Q9 (i64 g.room) []):=by
 have wo:AF k0q y5z [g.av,.clo (.func z9i) []] [] (Q9 (i64 g.room) []):=by
  refine Q8 hT Tryz.func99 rfl rfl Tryz.ntmps99 rfl ?_
  refine y6 hT ?_
  refine Z3 (Z4 0 g.pv rfl rfl) ?_
  unfold GeoV.room
  refine u6 (y6 hT ?_)
  refine Q1 (Q5 (q9g g) _ rfl rfl) ?_
  refine y8 (u9 (fun h=>?_) (fun h=>?_))
  ·have h:(!g.may)=true:=h
   rw[Bool.not_eq_true']at h
   rw[h]
   refine y6 hT ?_
   refine u5 ?_
   exact x8 [] ⟨rfl,rfl⟩ rfl
  ·have h:(!g.may)=false:=h
   rw[Bool.not_eq_false']at h
   rw[h]
   have hf:g.fits=true:=by unfold GeoV.may at h;rw[k1u]at h;exact h.1
   refine x7 ?_
   refine y6 hT ?_
   refine Q1 (Q5 (w8p g hf) _ rfl rfl) ?_
   refine u5 ?_
   exact x8 [] ⟨rfl,rfl⟩ rfl
 refine Q8 hT Tryz.func114 rfl rfl Tryz.ntmps114 rfl ?_
 refine y6 hT ?_
 refine Z3 (Z4 0 g.pv rfl rfl) ?_
 refine y6 hT ?_
 refine Q1 (Q5 wo _ rfl rfl) ?_
 refine u5 ?_
 exact x8 [] ⟨rfl,rfl⟩ rfl
theorem x8g (g:GeoV):(g.fits=true)=(8≤g.w∧g.w≤512∧1≤g.s∧g.s≤32∧1≤g.k∧g.k≤16∧1≤g.m∧g.m≤8):=by
 refine propext ⟨V7,fun h=>?_⟩
 unfold GeoV.fits inR
 simp only[Bool.and_eq_true,decide_eq_true_eq]
 omega
theorem z5p (g:GeoV):AF k0q x6t [g.av] [] (Q9 (bl g.may) []):=by
 have no:¬ (8≤g.w∧g.w≤512∧1≤g.s∧g.s≤32∧1≤g.k∧g.k≤16∧1≤g.m∧g.m≤8)→g.may=false:=fun h=>by
  have h2:g.fits=false:=by rw[← Bool.not_eq_true,x8g];exact h
  unfold GeoV.may;rw[h2];rfl
 refine AF.mono (R:=fun r H'=>∃ b,b=g.may∧r=bl b∧H'=[]) ?_ (by rintro r H' ⟨b,rfl,rfl,rfl⟩;exact⟨rfl,rfl⟩)
 refine Q8 hT Tryz.func36 rfl rfl Tryz.ntmps36 rfl ?_
 refine y6 hT ?_
 refine Z3 (Z4 0 g.pv rfl rfl) ?_
 refine u0 ⟨⟨56,[(1,.p (.box g.pv))]⟩,[]⟩ (g.fits=true) (y6 hT ?_) ?_
 ·skip
  refine u9 (fun h0=>?_) (fun h0=>?_)
  ·skip
   have h0:=k0z (show decide (g.w<8)=true from h0)
   refine y8 ?_
   refine y6 hT ?_
   refine u5 ?_
   exact x8 [] ⟨_,(no (by omega)).symm,rfl,rfl⟩ rfl
  ·have h0:=k0y (show decide (g.w<8)=false from h0)
   refine u9 (fun h1=>?_) (fun h1=>?_)
   ·skip
    have h1:=k0z (show decide (g.w > 512)=true from h1)
    refine y8 ?_
    refine y6 hT ?_
    refine u5 ?_
    exact x8 [] ⟨_,(no (by omega)).symm,rfl,rfl⟩ rfl
   ·have h1:=k0y (show decide (g.w > 512)=false from h1)
    refine u9 (fun h2=>?_) (fun h2=>?_)
    ·skip
     have h2:=k0z (show decide (g.s<1)=true from h2)
     refine y8 ?_
     refine y6 hT ?_
     refine u5 ?_
     exact x8 [] ⟨_,(no (by omega)).symm,rfl,rfl⟩ rfl
    ·have h2:=k0y (show decide (g.s<1)=false from h2)
     refine u9 (fun h3=>?_) (fun h3=>?_)
     ·skip
      have h3:=k0z (show decide (g.s > 32)=true from h3)
      refine y8 ?_
      refine y6 hT ?_
      refine u5 ?_
      exact x8 [] ⟨_,(no (by omega)).symm,rfl,rfl⟩ rfl
     ·have h3:=k0y (show decide (g.s > 32)=false from h3)
      refine u9 (fun h4=>?_) (fun h4=>?_)
      ·skip
       have h4:=k0z (show decide (g.k<1)=true from h4)
       refine y8 ?_
       refine y6 hT ?_
       refine u5 ?_
       exact x8 [] ⟨_,(no (by omega)).symm,rfl,rfl⟩ rfl
      ·have h4:=k0y (show decide (g.k<1)=false from h4)
       refine u9 (fun h5=>?_) (fun h5=>?_)
       ·skip
        have h5:=k0z (show decide (g.k > 16)=true from h5)
        refine y8 ?_
        refine y6 hT ?_
        refine u5 ?_
        exact x8 [] ⟨_,(no (by omega)).symm,rfl,rfl⟩ rfl
       ·have h5:=k0y (show decide (g.k > 16)=false from h5)
        refine u9 (fun h6=>?_) (fun h6=>?_)
        ·skip
         have h6:=k0z (show decide (g.m<1)=true from h6)
         refine y8 ?_
         refine y6 hT ?_
         refine u5 ?_
         exact x8 [] ⟨_,(no (by omega)).symm,rfl,rfl⟩ rfl
        ·have h6:=k0y (show decide (g.m<1)=false from h6)
         refine y8 (u9 (fun h7=>?_) (fun h7=>?_))
         ·skip
          have h7:=k0z (show decide (g.m > 8)=true from h7)
          skip
          refine y6 hT ?_
          refine u5 ?_
          exact x8 [] ⟨_,(no (by omega)).symm,rfl,rfl⟩ rfl
         ·have h7:=k0y (show decide (g.m > 8)=false from h7)
          exact x7 ⟨z8 [] [1] rfl,by rw[x8g];omega⟩
 intro hf
 obtain⟨h1,h2,h3,h4,h5,h6,h7,h8⟩:=V7 hf
 obtain⟨m1,m2,m3,m4,m5⟩:=z0j hf
 refine y6 hT ?_
 refine u5 ?_
 refine x8 [] ⟨_,?_,rfl,rfl⟩ rfl
 show decide (IntKind.i64.wrap (IntKind.i64.wrap (4+IntKind.i64.wrap (2*g.w))+IntKind.i64.wrap (IntKind.i64.wrap (2*g.s)*IntKind.i64.wrap (g.k+g.m)))≤4096)=_
 unfold GeoV.may
 rw[hf,Bool.true_and,Q0 (2*g.w) (by omega) (by omega),Q0 (4+2*g.w) (by omega) (by omega),Q0 (2*g.s) (by omega) (by omega),Q0 (g.k+g.m) (by omega) (by omega),Q0 (2*g.s*(g.k+g.m)) (by omega) (by omega),Q0 _ (by omega) (by omega)]
def U6 (l:List Int):x9:=l.flatMap fun n=>q0f n.toNat
theorem z7v (l:List Int)(n:Int):U6 (l++[n])=U6 l++q0f n.toNat:=by unfold U6;simp
def q6f (b:x9):x9 × x9 × Int:=match (q1b b).2.2 != 0 with
 |true=>([],b,(q1b b).2.2)
 |false=>match decide ((q1b b).1 > 4096) with
  |true=>([],b,2)
  |false=>match decide ((q1b b).2.1+(q1b b).1 > b.length) with
   |true=>([],b,6)
   |false=>((b.drop (q1b b).2.1).take (q1b b).1,(b.drop (q1b b).2.1).drop (q1b b).1,0)
def z1z (s:x9):x9:=q0f s.length++s
theorem y9q (s r:x9)(hs:s.length≤4096):q6f (z1z s++r)=(s,r,0):=by
 unfold q6f z1z
 rw[List.append_assoc,y2c _ _ (by omega)]
 show (match decide (s.length > 4096) with
  |true=>([],q0f s.length++(s++r),2)
  |false=>match decide ((q0f s.length).length+s.length > (q0f s.length++(s++r)).length) with
   |true=>([],q0f s.length++(s++r),6)
   |false=>(((q0f s.length++(s++r)).drop (q0f s.length).length).take s.length,((q0f s.length++(s++r)).drop (q0f s.length).length).drop s.length,0):x9 × x9 × Int)=_
 rw[k1s (show ¬ s.length > 4096 by omega),k1s (show ¬ (q0f s.length).length+s.length > (q0f s.length++(s++r)).length by simp only[List.length_append];omega)]
 simp
theorem u2w (b:x9)(i j:Nat):((bx b).take j).drop i=bx ((b.take j).drop i):=by rw[z1y,z9s]
theorem u2x (b:x9)(k n:Nat):(b.take (k+n)).drop k=(b.drop k).take n:=by rw[List.drop_take,Nat.add_sub_cancel_left]
theorem v5g (b:x9)(hb:b.length≤1000000):AFm k0q 1 z2u [.ref 0 0] [inC b] (Q9 (.tup [bA (q6f b).1,i64 (q6f b).2.2]) [inC (q6f b).2.1]):=by
 refine AFm.mono (R:=fun r H'=>∃ z,z=q6f b∧r=.tup [bA z.1,i64 z.2.2]∧H'=[inC z.2.1]) ?_ (by rintro r H' ⟨b,rfl,rfl,rfl⟩;exact⟨rfl,rfl⟩)
 have w:=v5e b hb
 have hk:=(v5f b).1
 have hn:=v8i b
 have hz:q6f b=match (q1b b).2.2 != 0 with
  |true=>([],b,(q1b b).2.2)
  |false=>match decide ((q1b b).1 > 4096) with
   |true=>([],b,2)
   |false=>match decide ((q1b b).2.1+(q1b b).1 > b.length) with
    |true=>([],b,6)
    |false=>((b.drop (q1b b).2.1).take (q1b b).1,(b.drop (q1b b).2.1).drop (q1b b).1,0):=rfl
 generalize q6f b=Z at hz
 generalize q1b b=Y at w hk hn hz
 obtain⟨n,k,e⟩:=Y
 have w:AFm k0q 1 q9v [.ref 0 0] [inC b] (Q9 (.tup [i64 n,i64 k,i64 e]) [inC b]):=w
 have hz:Z=match e != 0 with
  |true=>([],b,e)
  |false=>match decide (n > 4096) with
   |true=>([],b,2)
   |false=>match decide (k+n > b.length) with
    |true=>([],b,6)
    |false=>((b.drop k).take n,(b.drop k).drop n,0):=hz
 have hk:k≤b.length:=hk
 have hn:n<2 ^ 63:=hn
 have hbl:=Z1 b
 refine Z6 1 hT Tryz.func131 rfl rfl Tryz.ntmps131 rfl rfl ?_
 refine y6 hT ?_
 refine u0 ⟨⟨53,[(0,.ref 0 0),(4,i64 n),(5,i64 k),(6,i64 e)]⟩,[inC b]⟩ True (y7 hT ?_) (fun _=>?_)
 ·refine Q1 (Z7 [0] w rfl rfl rfl) ?_
  exact⟨z8 [0] [0,4,5,6] rfl,trivial⟩
 refine u0 ⟨⟨53,[(0,.ref 0 0),(4,i64 n),(5,i64 k)]⟩,[inC b]⟩ (k+n≤b.length∧Z=((b.drop k).take n,(b.drop k).drop n,0)) (x3 (y6 hT ?_)) ?_
 ·refine y8 (u9 (fun h=>?_) (fun h=>?_))
  ·have h:(e != 0)=true:=h
   rw[h]at hz
   refine y6 hT ?_
   refine Z3 (q0a 2 1 rfl) ?_
   refine u5 ?_
   exact x8 [0] ⟨_,hz.symm,rfl,rfl⟩ rfl
  have h:(e != 0)=false:=h
  rw[h]at hz
  refine y6 hT ?_
  refine y8 (u9 (fun h1=>?_) (fun h1=>?_))
  ·have h1:=k0z (show decide ((n:Int) > 4096)=true from h1)
   rw[k1t (show n > 4096 by omega)]at hz
   refine y6 hT ?_
   refine Z3 (q0a 2 1 rfl) ?_
   refine u5 ?_
   exact x8 [0] ⟨_,hz.symm,rfl,rfl⟩ rfl
  have h1:=k0y (show decide ((n:Int) > 4096)=false from h1)
  rw[k1s (show ¬ n > 4096 by omega)]at hz
  have hw:IntKind.i64.wrap (((bx b).length:Int) - k)=((b.length - k:Nat):Int):=by rw[hbl,Q0 _ (by omega) (by omega)];omega
  refine y6 hT ?_
  refine y8 (u9 (fun h2=>?_) (fun h2=>?_))
  ·have h2:=k0z (show decide ((n:Int) > IntKind.i64.wrap (((bx b).length:Int) - k))=true from h2)
   rw[hw]at h2
   rw[k1t (show k+n > b.length by omega)]at hz
   refine y6 hT ?_
   refine Z3 (q0a 2 1 rfl) ?_
   refine u5 ?_
   exact x8 [0] ⟨_,hz.symm,rfl,rfl⟩ rfl
  have h2:=k0y (show decide ((n:Int) > IntKind.i64.wrap (((bx b).length:Int) - k))=false from h2)
  rw[hw]at h2
  rw[k1s (show ¬ k+n > b.length by omega)]at hz
  exact x7 ⟨z8 [0] [0,4,5] rfl,by omega,hz⟩
 rintro⟨hkn,hz⟩
 have hw:IntKind.i64.wrap ((k:Int)+n)=((k+n:Nat):Int):=by rw[Q0 _ (by omega) (by omega)];omega
 have w2:AF k0q q0t [.p (.sl 1 (((bx b).take (IntKind.i64.wrap ((k:Int)+n)).toNat).drop ((k:Nat):Int).toNat))] [] (Q9 (bA ((b.drop k).take n)) []):=by
  rw[hw,k0u,k0u,u2w,u2x]
  exact z0f _ (by rw[k2u,List.length_drop];omega)
 refine u0 ⟨⟨53,[(0,.ref 0 0),(4,i64 n),(5,i64 k),(7,bA ((b.drop k).take n))]⟩,[inC b]⟩ True (y7 hT ?_) (fun _=>?_)
 ·refine⟨⟨k2w _,by rw[hw];omega,by rw[hw];omega⟩,?_⟩
  refine Q1 (Q5 w2 _ rfl rfl) ?_
  exact⟨z8 [0] [0,4,5,7] rfl,trivial⟩
 refine Q4 (fun s=>∃ X,X=bx ((b.drop k).drop n)∧s=⟨⟨53,[(7,bA ((b.drop k).take n))]⟩,[.cells y1u [.p (.sl 1 X)]]⟩) (y7 hT ?_) ?_
 ·refine⟨⟨by rw[hw];exact k2w _,by rw[hw];omega⟩,?_⟩
  refine⟨_,z8 [0] [7] rfl,_,?_,rfl⟩
  rw[hw,k0u,k0u,List.take_length,← z1y,List.drop_drop]
 ·rintro _ ⟨X,rfl,rfl⟩
  refine y6 hT ?_
  refine u5 ?_
  exact x8 [0] ⟨_,hz.symm,rfl,rfl⟩ rfl
theorem w8q (b s:x9)(hb:b.length≤900000)(hs:s.length≤4096):AFm k0q 1 y1t [.ref 0 0,bA s] (z7u b) (Q9 (i64 0) (z7u (b++z1z s))):=by
 have w:=w5x b s.length (by omega) (by omega)
 have hbl:=Z1 s
 have hl:(q0f s.length).length≤9:=w5v _ (by omega)
 refine Z6 1 hT Tryz.func133 rfl rfl Tryz.ntmps133 rfl rfl ?_
 refine y6 hT ?_
 refine u6 (x3 (y6 hT ?_))
 refine y8 ?_
 refine y6 hT ?_
 refine y8 (u9 (fun h=>?_) (fun h=>?_))
 ·have h:=k0z (show decide (((bx s).length:Int) > 4096)=true from h)
  omega
 refine x7 ?_
 rw[← hbl]at w
 obtain⟨v,hv⟩:∃ v:Int,v=((bx s).length:Int):=⟨_,rfl⟩
 rw[← hv]at w
 rw[← z6r v (by omega) (by omega)]at w
 refine u0 ⟨⟨26,[(0,.ref 0 0),(1,bA s)]⟩,z7u (b++q0f (bx s).length)⟩ True (y7 hT ?_) (fun _=>?_)
 ·rw[hv]at w
  refine Q1 (Z7 [0,1] w rfl rfl rfl) ?_
  exact⟨z8 [0,2] [0,1] rfl,trivial⟩
 generalize hB:b++q0f (bx s).length=B
 have hBl:=Z1 B
 have hBn:B.length≤900009:=by rw[← hB,k1y,hbl];omega
 refine y6 hT ?_
 refine⟨rfl,⟨?_,?_⟩,?_⟩
 ·show ((bx B).length+(bx s).length)*1≤_
  omega
 ·show (bx B).length+(bx s).length≤_
  omega
 refine y6 hT ?_
 refine u5 ?_
 rw[z1z,← hbl,← List.append_assoc,hB]
 show ∃ u2 H2,_∧Q9 (i64 0) [.cells z7m [.msl 1 1 0 (bx (B++s)).length],.row x6 1 (bx (B++s))] u2 H2
 rw[q3w]
 exact x8 [0,2] ⟨rfl,rfl⟩ rfl
theorem y2d (l:List Int)(hl:l.length≤1000000):AF k0q x6w [.p (.sl 1 (ix l))] [] (Q9 (bl (l.all X2)) []):=by
 refine Q8 hT Tryz.func64 rfl rfl Tryz.ntmps64 rfl ?_
 refine y6 hT ?_
 refine u0 ⟨⟨18,[]⟩,[]⟩ (l.all X2=true) (y6 hT ?_) ?_
 ·refine x3 ?_
  refine Q3 (fun n s=>∃ (i:Nat) (j:Int),n+i=l.length∧j=i∧(l.take i).all X2=true∧s=⟨⟨18,[(5,.p (.sl 1 (ix l))),(6,i64 l.length),(7,i64 j)]⟩,[]⟩) l.length ⟨⟨18,_⟩,[]⟩ (z8 [] [5,6,7] rfl) ⟨0,0,rfl,rfl,rfl,by rw[← ixl l];rfl⟩ ?_
  rintro n s ⟨i,j,hni,rfl,ht,rfl⟩
  refine y6 hT ?_
  refine u6 (y8 (u9 (fun h=>?_) (fun h=>?_)))
  ·have hi:i<l.length:=by
    have:=k0z (show decide ((i:Int)<(l.length:Int))=true from h)
    omega
   have hx:=k0w hi
   have hmem:=k1w hi
   have htk:l.take (i+1)=l.take i++[l[i]]:=by rw[k2t,hx];rfl
   generalize l[i]=c at hx htk hmem
   have hxp:(ix l)[((i:Nat):Int).toNat]?=some [.raw (.int .i64 c)]:=by rw[k0u];exact ixg hx
   have bad:X2 c=false→l.all X2=false:=fun h=>by
    rw[List.all_eq_false];exact⟨c,hmem,by rw[h];simp⟩
   refine x7 ?_
   refine u0 ⟨⟨18,[(5,.p (.sl 1 (ix l))),(6,i64 l.length),(7,i64 i)]⟩,[]⟩ (X2 c=true) (x3 (y6 hT ?_)) ?_
   ·refine⟨k2w _,Z2 hxp ?_⟩
    refine y6 hT ?_
    refine u9 (fun h2=>?_) (fun h2=>?_)
    ·have h2:=k0z (show decide (c<0)=true from h2)
     refine y8 ?_
     refine y6 hT ?_
     refine u5 ?_
     rw[bad (by unfold X2;rw[k1s (by omega)];rfl)]
     exact x8 [] ⟨rfl,rfl⟩ rfl
    ·have h2:=k0y (show decide (c<0)=false from h2)
     refine y8 (u9 (fun h3=>?_) (fun h3=>?_))
     ·have h3:=k0z (show decide (c > 4294967295)=true from h3)
      refine y6 hT ?_
      refine u5 ?_
      rw[bad (by unfold X2;rw[k1s (show ¬ c≤4294967295 by omega),Bool.and_false])]
      exact x8 [] ⟨rfl,rfl⟩ rfl
     ·have h3:=k0y (show decide (c > 4294967295)=false from h3)
      exact x7 ⟨z8 [] [5,6,7] rfl,by unfold X2;rw[k1t (show 0≤c by omega),k1t (show c≤4294967295 by omega)];rfl⟩
   ·intro hc
    refine y7 hT ?_
    refine⟨n - 1,by omega,_,z8 [] [5,6,7] rfl,i+1,IntKind.i64.wrap ((i:Int)+1),by omega,?_,?_,rfl⟩
    ·rw[Q0 _ (by omega) (by omega)];rfl
    ·rw[htk,List.all_append,ht];simp[hc]
  ·have hi:¬ (i:Int)<(l.length:Int):=k0y h
   have hil:i=l.length:=by omega
   subst hil
   rw[List.take_length]at ht
   refine Q7 ?_
   exact⟨z8 [] [] rfl,ht⟩
 ·intro h
  rw[h]
  refine y6 hT ?_
  refine u5 ?_
  exact x8 [] ⟨rfl,rfl⟩ rfl
end Go.Proofs.YtkjklhcfgbaceaaGreat.AL
namespace Go.Proofs.YtkjklhcfgbaceaaGreat.AL
open Go Go.Proofs Go.Proofs.YtkjklhcfgbaceaaGreat.AL.Crc
theorem v5h (k n:Nat):leB (k+1) n=UInt8.ofNat n :: leB k (n / 256):=by
 unfold leB
 rw[List.range_succ_eq_map,List.map_cons,List.map_map]
 congr 1
 ·rw[Nat.pow_zero,Nat.div_one]
 ·apply List.map_congr_left
  intro j _
  show UInt8.ofNat (n / 256 ^ (j+1))=UInt8.ofNat (n / 256 / 256 ^ j)
  rw[Nat.pow_succ,Nat.mul_comm,Nat.div_div_eq_div_mul]
theorem q7s:∀ k n,z2w (leB k n)=n % 256 ^ k
 |0,n=>by show 0=n % 1;omega
 |k+1,n=>by
  rw[v5h,z2w,q7s k,UInt8.toNat_ofNat',show (256:Nat) ^ (k+1)=256*256 ^ k by rw[Nat.pow_succ,Nat.mul_comm],Nat.mod_mul,Nat.mul_comm]
  omega
theorem z9u {s p c r:x9}{a w n:Nat}(hs:s=p++(c++r))(hp:p.length=a)(hc:c.length=w)(hl:z2w c=n):q3q s a w=n:=by
 subst hs;subst hp;subst hc
 unfold q3q
 rw[List.drop_left,List.take_left];exact hl
theorem z5q {b:Blk}(hn:b.nums=true)(hb:b.body.length≤228):W9 (J5 b.all)=(b,0):=by
 obtain⟨k,v,a,e,q,hbk,k1,k4,hv,ha,he,hq⟩:=y7e hn
 generalize hbody:b.body=body at hbk hb
 have hall:=q6m b (by rw[hbody];exact hb)
 have hs:J5 b.all=[81,77,UInt8.ofNat k,0]++(leB 4 v++(leB 4 a++(leB 4 e++(leB 4 q++(leB 2 body.length++(leB 2 0++(body++(List.replicate (228 - body.length) 0++leB 4 (sum b.all).toNat)))))))):=by
  show b.all++leB 4 (sum b.all).toNat=_
  have:b.all=[81,77,UInt8.ofNat k,0]++(leB 4 v++(leB 4 a++(leB 4 e++(leB 4 q++(leB 2 body.length++(leB 2 0++(body++List.replicate (228 - body.length) 0))))))):=by
   unfold Blk.all Blk.head
   rw[hbk]
   simp only[x1c,x8e,Int.toNat_natCast,List.append_assoc,List.append_nil]
  generalize leB 4 (sum b.all).toNat=z
  rw[this]
  simp only[List.append_assoc]
 have hlen:=q3p b.all
 have hw:=q8i b.all
 have hseal:b.sld=(J5 b.all,0):=by unfold Blk.sld;rw[hn,k1s (by rw[hbody];omega)]
 generalize J5 b.all=s at hs hlen hw hseal
 have l4:=fun n=>q0h 4 n
 have n20:q3q s 20 2=body.length:=z9u (p:=[81,77,UInt8.ofNat k,0]++(leB 4 v++(leB 4 a++(leB 4 e++leB 4 q)))) (c:=leB 2 body.length) (by rw[hs];simp only[List.append_assoc];rfl) (by simp only[List.length_append,l4];rfl) (q0h _ _) (by rw[q7s];omega)
 have n4:q3q s 4 4=v:=z9u (p:=[81,77,UInt8.ofNat k,0]) (c:=leB 4 v) hs rfl (q0h _ _) (by rw[q7s];omega)
 have n8:q3q s 8 4=a:=z9u (p:=[81,77,UInt8.ofNat k,0]++leB 4 v) (c:=leB 4 a) (by rw[hs];simp only[List.append_assoc];rfl) (by simp only[List.length_append,l4];rfl) (q0h _ _) (by rw[q7s];omega)
 have n12:q3q s 12 4=e:=z9u (p:=[81,77,UInt8.ofNat k,0]++(leB 4 v++leB 4 a)) (c:=leB 4 e) (by rw[hs];simp only[List.append_assoc];rfl) (by simp only[List.length_append,l4];rfl) (q0h _ _) (by rw[q7s];omega)
 have n16:q3q s 16 4=q:=z9u (p:=[81,77,UInt8.ofNat k,0]++(leB 4 v++(leB 4 a++leB 4 e))) (c:=leB 4 q) (by rw[hs];simp only[List.append_assoc];rfl) (by simp only[List.length_append,l4];rfl) (q0h _ _) (by rw[q7s];omega)
 have hd:(s.drop 24).take body.length=body:=by
  have e1:s=([81,77,UInt8.ofNat k,0]++(leB 4 v++(leB 4 a++(leB 4 e++(leB 4 q++(leB 2 body.length++leB 2 0))))))++(body++(List.replicate (228 - body.length) 0++leB 4 (sum b.all).toNat)):=by rw[hs];simp only[List.append_assoc]
  have e2:([81,77,UInt8.ofNat k,0]++(leB 4 v++(leB 4 a++(leB 4 e++(leB 4 q++(leB 2 body.length++leB 2 0)))))).length=24:=by simp only[List.length_append,l4,q0h];rfl
  rw[e1,← e2,List.drop_left,List.take_left]
 have hk:s.getD 2 0=UInt8.ofNat k:=by rw[hs];rfl
 have hblk:y2z s=b:=by
  unfold y2z
  rw[n20,n4,n8,n12,n16,hd,hk,hbk,UInt8.toNat_ofNat']
  congr 1
  omega
 unfold W9
 rw[hw,n20,hblk,hseal,k1t (show s.length=256 by omega),k1s (show ¬ (body.length:Int) > 228 by omega)]
 show (match (0:Int) != 0||!(s==s) with|true=>(Blk.zero,7)|false=>(b,0):Blk × Int)=_
 rw[show (s==s)=true from beq_self_eq_true s]
 rfl
theorem w8r (s:x9):(W9 s).1.body.length≤s.length:=by
 unfold W9
 split
 ·exact Nat.zero_le _
 ·split
  ·exact Nat.zero_le _
  ·split
   ·exact Nat.zero_le _
   ·show ((s.drop 24).take _).length≤_
    rw[k2u,List.length_drop];omega
end Go.Proofs.YtkjklhcfgbaceaaGreat.AL
