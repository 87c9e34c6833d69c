/- A part of the proof. -/
import Derived.Laws.Strings
import Derived.Test.YtkjklhcfgbaceaaGreatScrucG
open Go.Proofs.Tryz renaming prog→k0q
open Option.some renaming inj→k0x
open List renaming getElem?_eq_getElem→k0w,getD_eq_getElem?_getD→k0v,getElem?_map→k1z,length_append→k1y,getElem_mem→k1w,length_replicate→k2z,length_take→k2u,take_add_one→k2t
open Int renaming toNat_natCast→k0u,natCast_nonneg→k2w
open Nat renaming le_refl→k1v,mul_le_mul_right→k2v
open Bool renaming and_eq_true→k1u
set_option maxRecDepth 20000
namespace Go.Proofs.YtkjklhcfgbaceaaGreat.AL
open Go Go.Proofs Go.Proofs.YtkjklhcfgbaceaaGreat.AL.Crc
def x9 (Ls:List x8):List (List PV):=Ls.map fun l=>[bP l]
theorem Y5 (Ls:List x8):(x9 Ls).length=Ls.length:=by simp[x9]
theorem Y2 {Ls:List x8}{i:Nat}{l:x8}(h:Ls[i]?=some l):(x9 Ls)[i]?=some [bP l]:=by rw[x9,k1z,h];rfl
theorem y7u (Ls:List x8)(h1:Ls.length≤1000)(h2:Ls.flatten.length≤1000000):AF k0q q6x [.p (.sl 1 (x9 Ls))] [] (Q8 (.msl 0 1 0 (bx Ls.flatten).length) [.row y9 1 (bx Ls.flatten)]):=by
 have sub:∀ i,(Ls.take i).flatten.length≤1000000:=fun i=>by
  refine Nat.le_trans ?_ h2
  conv=>rhs;rw[← List.take_append_drop i Ls,List.flatten_append,k1y]
  omega
 refine Q7 hT Tryz.func177 rfl rfl Tryz.ntmps177 rfl ?_
 refine z7 hT ?_
 refine z7 hT ?_
 refine Q3 (fun s1=>∃ n:Int,0≤n∧n≤1000000∧s1=⟨⟨36,[(0,.p (.sl 1 (x9 Ls))),(3,i64 n)]⟩,[]⟩) (z7 hT ?_) ?_
 ·refine y8 ?_
  refine Q2 (fun m s=>∃ (i:Nat) (j v:Int),m+i=Ls.length∧j=i∧v=((Ls.take i).flatten.length:Int)∧s=⟨⟨36,[(0,.p (.sl 1 (x9 Ls))),(3,i64 v),(9,.p (.sl 1 (x9 Ls))),(10,i64 Ls.length),(11,i64 j)]⟩,[]⟩) Ls.length ⟨⟨36,_⟩,[]⟩ (z6 [] [0,3,9,10,11] rfl) ⟨0,0,0,rfl,rfl,rfl,by rw[← Y5 Ls];rfl⟩ ?_
  rintro m s ⟨i,j,v,hmi,rfl,hv,rfl⟩
  have hs:=sub i
  refine z7 hT ?_
  refine u5 (y6 (u7 (fun h=>?_) (fun h=>?_)))
  ·have hi:i<Ls.length:=by
    have:=k0z (show decide ((i:Int)<(Ls.length:Int))=true from h)
    omega
   have hx:=k0w hi
   have htk:Ls.take (i+1)=Ls.take i++[Ls[i]]:=by rw[k2t,hx];rfl
   generalize Ls[i]=l at hx htk
   have hxp:(x9 Ls)[((i:Nat):Int).toNat]?=some [bP l]:=by rw[k0u];exact Y2 hx
   have hs2:=sub (i+1)
   have hfl:(Ls.take (i+1)).flatten.length=(Ls.take i).flatten.length+l.length:=by rw[htk,List.flatten_append,k1y];simp
   have hw:IntKind.i64.wrap (v+((bx l).length:Int))=((Ls.take (i+1)).flatten.length:Int):=by
    rw[hv,Z0,Q1 _ (by omega) (by omega)];omega
   refine x6 ?_
   refine w9 ⟨⟨36,[(0,.p (.sl 1 (x9 Ls))),(3,i64 ((Ls.take (i+1)).flatten.length:Int)),(9,.p (.sl 1 (x9 Ls))),(10,i64 Ls.length),(11,i64 i)]⟩,[]⟩ True (y8 (z7 hT ?_)) (fun _=>?_)
   ·refine⟨k2w _,Z1 hxp ?_⟩
    refine z7 hT ?_
    refine z7 hT ?_
    refine y6 (u7 (fun h3=>?_) (fun h3=>?_))
    ·have h3:decide (IntKind.i64.wrap (v+((bx l).length:Int))<0)=true:=h3
     have h3:=k0z h3
     rw[hw]at h3;omega
    ·refine x6 ?_
     rw[← hw]
     exact⟨z6 [] [0,3,9,10,11] rfl,trivial⟩
   ·refine z8 hT ?_
    refine⟨m - 1,by omega,_,z6 [] [0,3,9,10,11] rfl,i+1,IntKind.i64.wrap ((i:Int)+1),_,by omega,?_,rfl,rfl⟩
    rw[Q1 _ (by omega) (by omega)];rfl
  ·refine Q6 ?_
   exact⟨_,z6 [] [0,3] rfl,v,by omega,by omega,rfl⟩
 rintro _ ⟨n,n0,n1,rfl⟩
 refine z7 hT ?_
 refine Q0 (x9c n n0 n1) ?_
 refine u5 (z7 hT ?_)
 refine y8 ?_
 refine Q2 (fun m s=>∃ (i:Nat) (j:Int) (L:x8),m+i=Ls.length∧j=i∧L=(Ls.take i).flatten∧s=⟨⟨36,[(6,.msl 0 1 0 (bx L).length),(25,.p (.sl 1 (x9 Ls))),(26,i64 Ls.length),(27,i64 j)]⟩,[.row y9 1 (bx L)]⟩) Ls.length ⟨⟨36,_⟩,[_]⟩ (z6 [0] [6,25,26,27] rfl) ⟨0,0,[],rfl,rfl,rfl,by rw[← Y5 Ls];rfl⟩ ?_
 rintro m s ⟨i,j,L,hmi,rfl,hL,rfl⟩
 have hs:=sub i
 rw[← hL]at hs
 have hbL:=Z0 L
 refine z7 hT ?_
 refine u5 (y6 (u7 (fun h=>?_) (fun h=>?_)))
 ·have hi:i<Ls.length:=by
   have:=k0z (show decide ((i:Int)<(Ls.length:Int))=true from h)
   omega
  have hx:=k0w hi
  have htk:Ls.take (i+1)=Ls.take i++[Ls[i]]:=by rw[k2t,hx];rfl
  generalize Ls[i]=l at hx htk
  have hxp:(x9 Ls)[((i:Nat):Int).toNat]?=some [bP l]:=by rw[k0u];exact Y2 hx
  have hs2:=sub (i+1)
  have hfl:(Ls.take (i+1)).flatten=L++l:=by rw[htk,List.flatten_append,hL];simp
  rw[hfl,k1y]at hs2
  have hbl:=Z0 l
  refine x6 ?_
  refine w9 ⟨⟨36,[(6,.msl 0 1 0 (bx (L++l)).length),(25,.p (.sl 1 (x9 Ls))),(26,i64 Ls.length),(27,i64 i)]⟩,[.row y9 1 (bx (L++l))]⟩ True (y8 (z7 hT ?_)) (fun _=>?_)
  ·refine⟨k2w _,Z1 hxp ?_⟩
   refine z8 hT ?_
   refine⟨rfl,⟨?_,?_⟩,?_⟩
   ·show ((bx L).length+(bx l).length)*1≤140737488355328
    omega
   ·show (bx L).length+(bx l).length≤140737488355328
    omega
   rw[q3v]
   exact⟨z6 [1] [6,25,26,27] rfl,trivial⟩
  ·refine z8 hT ?_
   refine⟨m - 1,by omega,_,z6 [0] [6,25,26,27] rfl,i+1,IntKind.i64.wrap ((i:Int)+1),L++l,by omega,?_,hfl.symm,rfl⟩
   rw[Q1 _ (by omega) (by omega)];rfl
 ·have hi:¬ (i:Int)<(Ls.length:Int):=k0y h
  have hil:i=Ls.length:=by omega
  subst hil
  rw[List.take_length]at hL
  subst hL
  refine Q6 ?_
  refine z7 hT ?_
  refine u0 ?_
  exact x7 [0] ⟨rfl,rfl⟩ rfl
theorem x0e (Ls:List x8)(h1:Ls.length≤1000)(h2:Ls.flatten.length≤1000000):AF k0q q6x [.p (.sl 1 (x9 Ls))] [] (Q8 (bA Ls.flatten) []):=z3u (y7u Ls h1 h2) rfl
theorem v6f (l:x8)(hl:l.length≤900000):AF k0q w3i [bA l] [] (Q8 (bA (J3 l)) []):=by
 have w:=x0e [l,leB 4 (sum l).toNat] (by simp) (by simp[q0f];omega)
 have e:[l,leB 4 (sum l).toNat].flatten=J3 l:=by simp[J3]
 rw[e]at w
 refine Q7 hT Tryz.func137 rfl rfl Tryz.ntmps137 rfl ?_
 refine z7 hT ?_
 refine u5 (X3 (fun k=>Nat.beq 4 k) hT ?_)
 refine Q0 (x4z l (by omega)) ?_
 refine Q0 (x8x (sum l).toNat) ?_
 refine⟨⟨rfl,rfl⟩,?_⟩
 refine Q0 w ?_
 refine u0 ?_
 exact x7 [] ⟨rfl,rfl⟩ rfl
/-- Is the sum there? -/
def q0s (l:x8):Bool:=match decide (4≤l.length) with
 |true=>l.drop (l.length - 4)==leB 4 (sum (l.take (l.length - 4))).toNat
 |false=>false
theorem z2c (l:x8)(n:Nat):bx (l.drop n)=(bx l).drop n:=by rw[bx,bx,List.map_drop]
theorem z9z (l:x8)(n:Nat):bx (l.take n)=(bx l).take n:=by rw[bx,bx,List.map_take]
theorem w9n (l:x8)(hl:l.length≤1000000):AF k0q x8g [bA l] [] (Q8 (bl (q0s l)) []):=by
 have hbl:=Z0 l
 refine Q7 hT Tryz.func169 rfl rfl Tryz.ntmps169 rfl ?_
 refine z7 hT ?_
 have hw:IntKind.i64.wrap (((bx l).length:Int) - 4)=(l.length:Int) - 4:=by rw[hbl,Q1 _ (by omega) (by omega)]
 refine w9 ⟨⟨20,[(0,bA l),(3,i64 ((l.length:Int) - 4))]⟩,[]⟩ True (z8 hT ?_) (fun _=>?_)
 ·rw[← hw]
  exact⟨z6 [] [0,3] rfl,trivial⟩
 refine u5 ?_
 refine Q9 [] [] hT u6 (by rfl) ?_
 refine u7 (fun h=>?_) (fun h=>?_)
 ·have h:=k0z (show decide ((l.length:Int) - 4≥0)=true from h)
  have e1:((bx l).take ((l.length:Int) - 4).toNat).drop (0:Int).toNat=bx (l.take (l.length - 4)):=by
   rw[show ((l.length:Int) - 4).toNat=l.length - 4 by omega,z9z];rfl
  have e2:((bx l).take (((bx l).length:Int)).toNat).drop ((l.length:Int) - 4).toNat=bx (l.drop (l.length - 4)):=by
   rw[show ((l.length:Int) - 4).toNat=l.length - 4 by omega,k0u,List.take_length,z2c]
  have w1:AF k0q y2c [.p (.sl 1 (((bx l).take ((l.length:Int) - 4).toNat).drop (0:Int).toNat))] [] (Q8 (i64 ((sum (l.take (l.length - 4))).toNat:Int)) []):=by
   rw[e1];exact x4z _ (by rw[k2u];omega)
  have w3:AF k0q q7k [.p (.sl 1 (((bx l).take (((bx l).length:Int)).toNat).drop ((l.length:Int) - 4).toNat)),bA (leB 4 (sum (l.take (l.length - 4))).toNat)] [] (Q8 (bl (l.drop (l.length - 4)==leB 4 (sum (l.take (l.length - 4))).toNat)) []):=by
   rw[e2];exact x5b _ _ (by rw[List.length_drop];omega)
  have ew:q0s l=(l.drop (l.length - 4)==leB 4 (sum (l.take (l.length - 4))).toNat):=by unfold q0s;rw[k1t (show 4≤l.length by omega)]
  refine⟨⟨h,by omega,Int.le_refl _⟩,?_⟩
  refine⟨⟨Int.le_refl _,h,by omega⟩,?_⟩
  refine⟨_,Q4 w1 _ rfl rfl,?_⟩
  refine⟨_,Q4 (x8x _) _ rfl rfl,?_⟩
  refine⟨_,Q4 w3 _ rfl rfl,?_⟩
  refine u0 ?_
  rw[ew]
  exact x7 [] ⟨rfl,rfl⟩ rfl
 ·have h:=k0y (show decide ((l.length:Int) - 4≥0)=false from h)
  have ew:q0s l=false:=by unfold q0s;rw[k1s (by omega)]
  refine u0 ?_
  rw[ew]
  exact x7 [] ⟨rfl,rfl⟩ rfl
theorem ixg {l:List Int}{i:Nat}{c:Int}(h:l[i]?=some c):(ix l)[i]?=some [.raw (.int .i64 c)]:=by rw[ix,k1z,h];rfl
theorem ixl (l:List Int):(ix l).length=l.length:=by simp[ix]
def Y7 (n:Int):Bool:=decide (0≤n)&&decide (n≤4294967295)
theorem x9d (l:List Int)(hl:l.length≤1000000):AF k0q x0a [.p (.sl 1 (ix l))] [] (Q8 (bl (l.all Y7)) []):=by
 refine Q7 hT Tryz.func176 rfl rfl Tryz.ntmps176 rfl ?_
 refine z7 hT ?_
 refine w9 ⟨⟨18,[]⟩,[]⟩ (l.all Y7=true) (z7 hT ?_) ?_
 ·refine y8 ?_
  refine Q2 (fun n s=>∃ (i:Nat) (j:Int),n+i=l.length∧j=i∧(l.take i).all Y7=true∧s=⟨⟨18,[(5,.p (.sl 1 (ix l))),(6,i64 l.length),(7,i64 j)]⟩,[]⟩) l.length ⟨⟨18,_⟩,[]⟩ (z6 [] [5,6,7] rfl) ⟨0,0,rfl,rfl,rfl,by rw[← ixl l];rfl⟩ ?_
  rintro n s ⟨i,j,hni,rfl,ht,rfl⟩
  refine z7 hT ?_
  refine u5 (y6 (u7 (fun h=>?_) (fun h=>?_)))
  ·have hi:i<l.length:=by
    have:=k0z (show decide ((i:Int)<(l.length:Int))=true from h)
    omega
   have hx:=k0w hi
   have hmem:=k1w hi
   have htk:l.take (i+1)=l.take i++[l[i]]:=by rw[k2t,hx];rfl
   generalize l[i]=c at hx htk hmem
   have hxp:(ix l)[((i:Nat):Int).toNat]?=some [.raw (.int .i64 c)]:=by rw[k0u];exact ixg hx
   have bad:Y7 c=false→l.all Y7=false:=fun h=>by
    rw[List.all_eq_false];exact⟨c,hmem,by rw[h];simp⟩
   refine x6 ?_
   refine w9 ⟨⟨18,[(5,.p (.sl 1 (ix l))),(6,i64 l.length),(7,i64 i)]⟩,[]⟩ (Y7 c=true) (y8 (z7 hT ?_)) ?_
   ·refine⟨k2w _,Z1 hxp ?_⟩
    refine z7 hT ?_
    refine u7 (fun h2=>?_) (fun h2=>?_)
    ·have h2:=k0z (show decide (c<0)=true from h2)
     refine y6 ?_
     refine z7 hT ?_
     refine u0 ?_
     rw[bad (by unfold Y7;rw[k1s (by omega)];rfl)]
     exact x7 [] ⟨rfl,rfl⟩ rfl
    ·have h2:=k0y (show decide (c<0)=false from h2)
     refine y6 (u7 (fun h3=>?_) (fun h3=>?_))
     ·have h3:=k0z (show decide (c > 4294967295)=true from h3)
      refine z7 hT ?_
      refine u0 ?_
      rw[bad (by unfold Y7;rw[k1s (show ¬ c≤4294967295 by omega),Bool.and_false])]
      exact x7 [] ⟨rfl,rfl⟩ rfl
     ·have h3:=k0y (show decide (c > 4294967295)=false from h3)
      exact x6 ⟨z6 [] [5,6,7] rfl,by unfold Y7;rw[k1t (show 0≤c by omega),k1t (show c≤4294967295 by omega)];rfl⟩
   ·intro hc
    refine z8 hT ?_
    refine⟨n - 1,by omega,_,z6 [] [5,6,7] rfl,i+1,IntKind.i64.wrap ((i:Int)+1),by omega,?_,?_,rfl⟩
    ·rw[Q1 _ (by omega) (by omega)];rfl
    ·rw[htk,List.all_append,ht];simp[hc]
  ·have hi:¬ (i:Int)<(l.length:Int):=k0y h
   have hil:i=l.length:=by omega
   subst hil
   rw[List.take_length]at ht
   refine Q6 ?_
   exact⟨z6 [] [] rfl,ht⟩
 ·intro h
  rw[h]
  refine z7 hT ?_
  refine u0 ?_
  exact x7 [] ⟨rfl,rfl⟩ rfl
structure Blk where
 kind:Int
 vol:Int
 addr:Int
 epoch:Int
 seq:Int
 body:x8
 deriving DecidableEq
abbrev Blk.pv (b:Blk):List PV:=[.raw (.int .i64 b.kind),.raw (.int .i64 b.vol),.raw (.int .i64 b.addr),.raw (.int .i64 b.epoch),.raw (.int .i64 b.seq),bP b.body]
abbrev Blk.av (b:Blk):AV:=.agg [i64 b.kind,i64 b.vol,i64 b.addr,i64 b.epoch,i64 b.seq,bA b.body]
def Blk.nums (b:Blk):Bool:=decide (b.kind≥1)&&decide (b.kind≤4)&&[b.vol,b.addr,b.epoch,b.seq].all Y7
theorem q9y (b:Blk):AF k0q y4f [b.av] [] (Q8 (bl b.nums) []):=by
 refine Q7 hT Tryz.func135 rfl rfl Tryz.ntmps135 rfl ?_
 refine z7 hT ?_
 refine Z2 (Z3 0 b.pv rfl rfl) ?_
 unfold Blk.nums
 refine u5 (X3 (fun k=>Nat.beq 17 k) hT ?_)
 refine u7 (fun h1=>?_) (fun h1=>?_)
 ·rw[show decide (b.kind≥1)=true from h1]
  refine u7 (fun h2=>?_) (fun h2=>?_)
  ·rw[show decide (b.kind≤4)=true from h2]
   refine⟨⟨rfl,rfl⟩,?_⟩
   refine Q0 (Q4 (x9d [b.vol,b.addr,b.epoch,b.seq] (by simp)) _ rfl rfl) ?_
   refine u0 ?_
   exact x7 [] ⟨rfl,rfl⟩ rfl
  ·rw[show decide (b.kind≤4)=false from h2]
   refine u0 ?_
   exact x7 [] ⟨rfl,rfl⟩ rfl
 ·rw[show decide (b.kind≥1)=false from h1]
  refine u0 ?_
  exact x7 [] ⟨rfl,rfl⟩ rfl
def z6e (w:Nat)(l:List Nat):x8:=l.flatMap (leB w)
theorem y0a (w:Nat)(l:List Nat):(z6e w l).length=w*l.length:=by
 unfold z6e
 induction l with
 |nil=>simp
 |cons n r ih=>rw[List.flatMap_cons,k1y,q0f,ih,List.length_cons,Nat.mul_succ];omega
theorem w9p (w:Nat)(l:List Nat)(n:Nat):z6e w (l++[n])=z6e w l++leB w n:=by unfold z6e;simp
def nx (l:List Nat):List (List PV):=l.map fun n:Nat=>[.raw (.int .i64 (n:Int))]
theorem u3j (l:List Nat):(nx l).length=l.length:=by simp[nx]
theorem u3k {l:List Nat}{i:Nat}{c:Nat}(h:l[i]?=some c):(nx l)[i]?=some [.raw (.int .i64 (c:Int))]:=by rw[nx,k1z,h];rfl
theorem x1x (xs:List (List PV))(w:Nat)(l:List Nat)(hx:xs.length≤1000)(hw:w≤8)(hl:l.length≤100) :
 AFm k0q 0 x8e [.msl 0 1 0 xs.length,i64 w,.p (.sl 1 (nx l))] [.row y9 1 xs] (Q8 (.msl 0 1 0 (xs++bx (z6e w l)).length) [.row y9 1 (xs++bx (z6e w l))]):=by
 refine Z5 0 hT Tryz.func136 rfl rfl Tryz.ntmps136 rfl rfl ?_
 refine z7 hT ?_
 refine u5 (z7 hT ?_)
 refine y8 ?_
 refine Q2 (fun m s=>∃ (i:Nat) (j:Int) (L:List (List PV)),m+i=l.length∧j=i∧L=xs++bx (z6e w (l.take i))∧s=⟨⟨28,[(0,.msl 0 1 0 L.length),(1,i64 w),(9,.p (.sl 1 (nx l))),(10,i64 l.length),(11,i64 j)]⟩,[.row y9 1 L]⟩) l.length ⟨⟨28,_⟩,[_]⟩ (z6 [0] [0,1,9,10,11] rfl) ⟨0,0,xs,rfl,rfl,by simp[z6e,bx],by rw[← u3j l];rfl⟩ ?_
 rintro m s ⟨i,j,L,hmi,rfl,hL,rfl⟩
 have hLl:L.length≤2000:=by
  have h8:w*(l.take i).length≤8*100:=Nat.mul_le_mul hw (by rw[k2u];omega)
  rw[hL,k1y,Z0,y0a];omega
 refine z7 hT ?_
 refine u5 (y6 (u7 (fun h=>?_) (fun h=>?_)))
 ·have hi:i<l.length:=by
   have:=k0z (show decide ((i:Int)<(l.length:Int))=true from h)
   omega
  have hx:=k0w hi
  have htk:l.take (i+1)=l.take i++[l[i]]:=by rw[k2t,hx];rfl
  generalize l[i]=n at hx htk
  have hxp:(nx l)[((i:Nat):Int).toNat]?=some [.raw (.int .i64 (n:Int))]:=by rw[k0u];exact u3k hx
  refine x6 ?_
  refine w9 ⟨⟨28,[(0,.msl 0 1 0 (L++bx (leB w n)).length),(1,i64 w),(9,.p (.sl 1 (nx l))),(10,i64 l.length),(11,i64 i)]⟩,[.row y9 1 (L++bx (leB w n))]⟩ True (y8 (z7 hT ?_)) (fun _=>?_)
  ·refine⟨k2w _,Z1 hxp ?_⟩
   refine z7 hT ?_
   refine y8 ?_
   refine Q2 (fun m s=>∃ (k:Nat) (j v:Int) (M:List (List PV)),m+k=w∧j=k∧v=((n / 256 ^ k:Nat):Int)∧M=L++bx (leB k n)∧s=⟨⟨28,[(0,.msl 0 1 0 M.length),(1,i64 w),(8,i64 v),(9,.p (.sl 1 (nx l))),(10,i64 l.length),(11,i64 i),(15,i64 w),(16,i64 j)]⟩,[.row y9 1 M]⟩) w ⟨⟨28,_⟩,[_]⟩ (z6 [0] [0,1,8,9,10,11,15,16] rfl) ⟨0,0,_,L,rfl,rfl,by rw[Nat.pow_zero,Nat.div_one],by simp[leB,bx],rfl⟩ ?_
   rintro q s ⟨k,j,v,M,hmk,rfl,rfl,hM,rfl⟩
   have hMl:M.length≤2010:=by rw[hM,k1y,Z0,q0f];omega
   refine z7 hT ?_
   refine u5 (y6 (u7 (fun h=>?_) (fun h=>?_)))
   ·have hk:k<w:=by
     have:=k0z (show decide ((k:Int)<(w:Int))=true from h)
     omega
    refine x6 ?_
    refine w9 ⟨⟨28,[(0,.msl 0 1 0 (M++[[u8 (UInt8.ofNat (n / 256 ^ k))]]).length),(1,i64 w),(8,i64 ((n / 256 ^ (k+1):Nat):Int)),(9,.p (.sl 1 (nx l))),(10,i64 l.length),(11,i64 i),(15,i64 w),(16,i64 k)]⟩,[.row y9 1 (M++[[u8 (UInt8.ofNat (n / 256 ^ k))]])]⟩ True (y8 (u5 (X3 (fun k=>Nat.beq 3 k) hT ?_))) (fun _=>?_)
    ·refine⟨⟨rfl,rfl⟩,?_⟩
     refine⟨rfl,⟨?_,?_⟩,?_⟩
     ·show (M.length+1)*1≤140737488355328
      omega
     ·show M.length+1≤140737488355328
      omega
     refine z8 hT ?_
     rw[show u8 (UInt8.ofNat (n / 256 ^ k))=PV.raw (.int .u8 (IntKind.u8.wrap ((n / 256 ^ k:Nat):Int))) by rw[q3h],y4u,← u4k]
     exact⟨z6 [1] [0,1,8,9,10,11,15,16] rfl,trivial⟩
    ·refine z8 hT ?_
     refine⟨q - 1,by omega,_,z6 [0] [0,1,8,9,10,11,15,16] rfl,k+1,IntKind.i64.wrap ((k:Int)+1),_,_,by omega,?_,rfl,by rw[hM,z9x,z9y,List.append_assoc],rfl⟩
     rw[Q1 _ (by omega) (by omega)];rfl
   ·have hk:¬ (k:Int)<(w:Int):=k0y h
    have hkw:k=w:=by omega
    subst hkw
    refine Q6 ?_
    rw[← hM]
    exact⟨z6 [0] [0,1,9,10,11] rfl,trivial⟩
  ·refine z8 hT ?_
   refine⟨m - 1,by omega,_,z6 [0] [0,1,9,10,11] rfl,i+1,IntKind.i64.wrap ((i:Int)+1),_,by omega,?_,by rw[hL,htk,w9p,q3v,List.append_assoc],rfl⟩
   rw[Q1 _ (by omega) (by omega)];rfl
 ·have hi:¬ (i:Int)<(l.length:Int):=k0y h
  have hil:i=l.length:=by omega
  subst hil
  rw[List.take_length]at hL
  refine Q6 ?_
  refine z7 hT ?_
  refine u0 ?_
  rw[← hL]
  exact x7 [0] ⟨rfl,rfl⟩ rfl
def Blk.head (b:Blk):x8:=[81,77,UInt8.ofNat b.kind.toNat,0]++z6e 4 [b.vol.toNat,b.addr.toNat,b.epoch.toNat,b.seq.toNat]++z6e 2 [b.body.length,0]
def Blk.all (b:Blk):x8:=b.head++b.body++List.replicate (228 - b.body.length) 0
def Blk.sld (b:Blk):x8 × Int:=match b.nums with
 |false=>([],1)
 |true=>match decide (b.body.length > 228) with
  |true=>([],2)
  |false=>(J3 b.all,0)
theorem x9e (b:Blk):b.head.length=24:=by unfold Blk.head;rw[k1y,k1y,y0a,y0a];rfl
theorem q6p (b:Blk)(h:b.body.length≤228):b.all.length=252:=by unfold Blk.all;rw[k1y,k1y,x9e,k2z];omega
theorem q1e {m:Nat}{s:St}(i b n:Nat){t:TypeId}{xs ys:List (List PV)}(e:xs=ys)(hn:n=xs.length)(hb:s.H[b]?=some (.row t 1 xs))(hi:W0 s.fr.l i=some (.msl b 1 0 n)) :
 Wk m s ⟨⟨s.fr.n,(i,.p (.sl 1 ys)) :: s.fr.l⟩,s.H.set b .dead⟩:=by
 subst hn
 have:=y4n (m:=m) (s:=s) i b hb hi (by omega)
 rw[List.drop_zero,List.take_length]at this
 subst e
 exact this
theorem x0f (k v a e q:Nat)(body:x8)(hn:(Blk.mk k v a e q body).nums=true)(hb:body.length≤228) :
 AF k0q z9j [(Blk.mk k v a e q body).av] [] (Q8 (.tup [bA (J3 (Blk.mk k v a e q body).all),i64 0]) []):=by
 have hbl:=Z0 body
 have hall:=q6p (Blk.mk k v a e q body) hb
 refine Q7 hT Tryz.func94 rfl rfl Tryz.ntmps94 rfl ?_
 refine z7 hT ?_
 refine Z2 (Z3 0 (Blk.mk k v a e q body).pv rfl rfl) ?_
 have wn:=q9y (Blk.mk k v a e q body)
 rw[hn]at wn
 refine w9 ⟨⟨46,[(1,.p (.box (Blk.mk k v a e q body).pv))]⟩,[]⟩ True (y8 (z7 hT ?_)) (fun _=>?_)
 ·refine Q0 (Q4 wn _ rfl rfl) ?_
  refine y6 ?_
  refine z7 hT ?_
  refine y6 (u7 (fun h=>?_) (fun h=>?_))
  ·have h:=k0z (show decide (((bx body).length:Int) > 228)=true from h)
   omega
  ·exact x6 ⟨z6 [] [1] rfl,trivial⟩
 have l1:=x1x [[u8 81],[u8 77],[.raw (.int .u8 (IntKind.u8.wrap (k:Int)))],[u8 0]] 4 [v,a,e,q] (by simp) (by omega) (by simp)
 generalize hM:[[u8 81],[u8 77],[PV.raw (.int .u8 (IntKind.u8.wrap (k:Int)))],[u8 0]]++bx (z6e 4 [v,a,e,q])=M at l1
 have hMl:M.length=20:=by rw[← hM,k1y,Z0,y0a];rfl
 have l2:=x1x M 2 [(bx body).length,0] (by omega) (by omega) (by simp)
 have hH:M++bx (z6e 2 [(bx body).length,0])=bx (Blk.mk k v a e q body).head:=by
  unfold Blk.head
  rw[hbl,q3v,q3v,← hM,q3h]
  rfl
 have hhl:=x9e (Blk.mk k v a e q body)
 refine w9 ⟨⟨46,[(1,.p (.box (Blk.mk k v a e q body).pv)),(4,.msl 0 1 0 M.length)]⟩,[.row y9 1 M]⟩ True (X3 (fun k=>Nat.beq 12 k) hT ?_) (fun _=>?_)
 ·refine⟨⟨rfl,rfl⟩,?_⟩
  refine Q0 (Z7 [0] l1 rfl rfl rfl) ?_
  exact⟨z6 [1] [1,4] rfl,trivial⟩
 refine w9 ⟨⟨46,[(1,.p (.box (Blk.mk k v a e q body).pv)),(4,.p (.sl 1 (bx (Blk.mk k v a e q body).head)))]⟩,[]⟩ True (X3 (fun k=>Nat.beq 4 k) hT ?_) (fun _=>?_)
 ·refine⟨⟨rfl,rfl⟩,?_⟩
  refine Q0 (Z7 [0] l2 rfl rfl rfl) ?_
  refine⟨Wk.trans (z6 [1] [1,4] rfl) (Wk.trans (q1e 4 0 _ hH rfl rfl rfl) (z6 [] [1,4] rfl)),trivial⟩
 generalize hA:(Blk.mk k v a e q body).all=A at hall
 have hcopy:V6 (V6 (List.replicate 252 [u8 0]) 0 (bx (Blk.mk k v a e q body).head)) 24 (bx body)=bx A:=by
  rw[← hA]
  unfold Blk.all
  rw[q3v,q3v]
  have h1:(bx (Blk.mk k v a e q body).head).length=24:=by rw[Z0,hhl]
  have e1:V6 (List.replicate 252 [u8 0]) 0 (bx (Blk.mk k v a e q body).head)=bx (Blk.mk k v a e q body).head++List.replicate 228 [u8 0]:=by
   unfold V6;rw[h1,List.take_zero,List.drop_replicate,List.nil_append]
  rw[e1]
  unfold V6
  rw[List.take_append_of_le_length (by omega),List.take_of_length_le (by omega),List.drop_append,List.drop_replicate,h1,hbl]
  rw[List.drop_eq_nil_of_le (by omega),List.nil_append]
  rw[show (228:Nat) - (24+body.length - 24)=228 - body.length by omega]
  congr 1
  unfold bx;rw[List.map_replicate]
 refine z7 hT ?_
 refine⟨⟨rfl,by omega,by decide,by omega⟩,?_⟩
 refine w9 ⟨⟨46,[(1,.p (.box (Blk.mk k v a e q body).pv)),(5,.msl 0 1 0 252)]⟩,[.row y9 1 (V6 (List.replicate 252 [u8 0]) 0 (bx (Blk.mk k v a e q body).head))]⟩ True (z8 hT ?_) (fun _=>?_)
 ·have h1:(bx (Blk.mk k v a e q body).head).length=24:=by rw[Z0,hhl]
  refine⟨⟨?_,?_⟩,?_⟩
  ·show 0+252≤(List.replicate 252 _).length
   rw[k2z];omega
  ·show (bx (Blk.mk k v a e q body).head).length≤252
   omega
  exact⟨z6 [0] [1,5] rfl,trivial⟩
 have hl0:(V6 (List.replicate 252 [u8 0]) 0 (bx (Blk.mk k v a e q body).head)).length=252:=by
  rw[V5 (by rw[k2z,Z0,hhl];omega),k2z]
 generalize hS:V6 (List.replicate 252 [u8 0]) 0 (bx (Blk.mk k v a e q body).head)=S at hcopy hl0
 refine w9 ⟨⟨46,[(5,.p (.sl 1 (bx A)))]⟩,[]⟩ True ?_ (fun _=>?_)
 ·refine Q9 [4] [] hT u6 (by rfl) ?_
  refine⟨⟨by omega,by decide,Int.le_refl _⟩,?_⟩
  refine⟨⟨?_,?_⟩,?_⟩
  ·show 0+24+(252 - 24)≤S.length
   omega
  ·show (bx body).length≤252 - 24
   omega
  have hSl:(V6 S 24 (bx body)).length=252:=by rw[V5 (by omega),hl0]
  exact⟨Wk.trans (q1e 5 0 252 hcopy hSl.symm rfl rfl) (z6 [] [5] rfl),trivial⟩
 ·refine z7 hT ?_
  refine Q0 (Q4 (v6f A (by omega)) _ rfl rfl) ?_
  refine u0 ?_
  exact x7 [] ⟨rfl,rfl⟩ rfl
theorem y7v {b:Blk}(h:b.nums=true):∃ k v a e q:Nat,b=⟨k,v,a,e,q,b.body⟩∧1≤k∧k≤4∧v≤4294967295∧a≤4294967295∧e≤4294967295∧q≤4294967295:=by
 obtain⟨k,v,a,e,q,body⟩:=b
 unfold Blk.nums Y7 at h
 simp only[List.all_cons,List.all_nil,Bool.and_true,Bool.and_eq_true,decide_eq_true_eq]at h
 obtain⟨⟨k1,k4⟩,⟨v0,v1⟩,⟨a0,a1⟩,⟨e0,e1⟩,q0,q1⟩:=h
 refine⟨k.toNat,v.toNat,a.toNat,e.toNat,q.toNat,?_,by omega,by omega,by omega,by omega,by omega,by omega⟩
 rw[Int.toNat_of_nonneg (by omega),Int.toNat_of_nonneg v0,Int.toNat_of_nonneg a0,Int.toNat_of_nonneg e0,Int.toNat_of_nonneg q0]
theorem q6d (b:Blk):AF k0q z9j [b.av] [] (Q8 (.tup [bA b.sld.1,i64 b.sld.2]) []):=by
 cases hn:b.nums with
 |true=>
  cases hl:decide (b.body.length > 228) with
  |false=>
   have hl:=k0y hl
   have e:b.sld=(J3 b.all,0):=by unfold Blk.sld;rw[hn,k1s hl]
   obtain⟨k,v,a,e',q,hb,_⟩:=y7v hn
   rw[e]
   rw[hb]at hn ⊢
   exact x0f k v a e' q b.body hn (by omega)
  |true=>
   have e:b.sld=([],2):=by unfold Blk.sld;rw[hn,hl]
   have hbl:=Z0 b.body
   have hl:=k0z hl
   have wn:=q9y b
   rw[hn]at wn
   rw[e]
   refine Q7 hT Tryz.func94 rfl rfl Tryz.ntmps94 rfl ?_
   refine z7 hT ?_
   refine Z2 (Z3 0 b.pv rfl rfl) ?_
   refine u5 (y8 (z7 hT ?_))
   refine Q0 (Q4 wn _ rfl rfl) ?_
   refine y6 ?_
   refine z7 hT ?_
   refine y6 (u7 (fun h=>?_) (fun h=>?_))
   ·refine z7 hT ?_
    refine Z2 (J8 2 1 rfl) ?_
    refine u0 ?_
    exact x7 [] ⟨rfl,rfl⟩ rfl
   ·have h:=k0y (show decide (((bx b.body).length:Int) > 228)=false from h)
    omega
 |false=>
  have e:b.sld=([],1):=by unfold Blk.sld;rw[hn]
  have wn:=q9y b
  rw[hn]at wn
  rw[e]
  refine Q7 hT Tryz.func94 rfl rfl Tryz.ntmps94 rfl ?_
  refine z7 hT ?_
  refine Z2 (Z3 0 b.pv rfl rfl) ?_
  refine u5 (y8 (z7 hT ?_))
  refine Q0 (Q4 wn _ rfl rfl) ?_
  refine y6 ?_
  refine z7 hT ?_
  refine Z2 (J8 2 1 rfl) ?_
  refine u0 ?_
  exact x7 [] ⟨rfl,rfl⟩ rfl
def z3a:x8→Nat
 |[]=>0
 |c :: r=>z3a r*256+c.toNat
theorem x9f:∀ l:x8,z3a l<256 ^ l.length
 |[]=>by simp[z3a]
 |c :: r=>by
  have ih:=x9f r
  have hc:=c.toNat_lt
  rw[z3a,List.length_cons,Nat.pow_succ]
  omega
theorem u0b (n c:Nat)(hn:n<4294967296)(hc:c<256):IntKind.i64.wrap ((BitVec.ofInt 64 (IntKind.i64.wrap ((n:Int)*2 ^ (min ((8:Nat):Int).toNat 64))) ||| BitVec.ofInt 64 (IntKind.i64.wrap (c:Int))).toNat:Int)=((n*256+c:Nat):Int):=by
 have e1:IntKind.i64.wrap ((n:Int)*2 ^ (min ((8:Nat):Int).toNat 64))=((n*256:Nat):Int):=by
  show IntKind.i64.wrap ((n:Int)*256)=_
  rw[Q1 _ (by omega) (by omega)];omega
 rw[e1,Q1 (c:Int) (by omega) (by omega)]
 have e2:(BitVec.ofInt 64 ((n*256:Nat):Int) ||| BitVec.ofInt 64 (c:Int)).toNat=n*256+c:=by
  rw[BitVec.toNat_or,BitVec.toNat_ofInt,BitVec.toNat_ofInt]
  rw[show (((n*256:Nat):Int) % ((2 ^ 64:Nat):Int)).toNat=n*256 by omega,show ((c:Int) % ((2 ^ 64:Nat):Int)).toNat=c by omega]
  have:=Nat.shiftLeft_add_eq_or_of_lt (show c<2 ^ 8 from hc) n
  rw[Nat.shiftLeft_eq]at this
  exact this.symm
 rw[e2,Q1 _ (by omega) (by omega)]
def q3s (s:x8)(at_ w:Nat):Nat:=z3a ((s.drop at_).take w)
theorem q5r (s:x8)(at_ w:Nat)(hw:w≤4)(hs:at_+w≤s.length)(hl:s.length≤1000000):AF k0q y6r [bA s,i64 at_,i64 w] [] (Q8 (i64 (q3s s at_ w:Nat)) []):=by
 refine Q7 hT Tryz.func168 rfl rfl Tryz.ntmps168 rfl ?_
 refine z7 hT ?_
 refine z7 hT ?_
 refine u5 (z7 hT ?_)
 refine y8 ?_
 refine Q2 (fun m st=>∃ (j v:Int),j=(m:Int) - 1∧m≤w∧v=(z3a ((s.drop (at_+m)).take (w - m)):Nat)∧st=⟨⟨26,[(0,bA s),(1,i64 at_),(7,i64 v),(8,i64 j)]⟩,[]⟩) w ⟨⟨26,_⟩,[]⟩ (z6 [] [0,1,7,8] rfl) ⟨_,0,?_,k1v _,by rw[Nat.sub_self,List.take_zero];rfl,rfl⟩ ?_
 ·exact Q1 _ (by omega) (by omega)
 rintro m st ⟨j,v,hj,hm,hv,rfl⟩
 refine u5 (z7 hT ?_)
 refine y6 (u7 (fun h=>?_) (fun h=>?_))
 ·have h:=k0z (show decide (j≥0)=true from h)
  obtain⟨m,rfl⟩:∃ k,m=k+1:=⟨m - 1,by omega⟩
  have hj:j=(m:Int):=by omega
  subst hj
  have hi:at_+m<s.length:=by omega
  have hx:=k0w hi
  have hdr:s.drop (at_+m)=s[at_+m] :: s.drop (at_+(m+1)):=List.drop_eq_getElem_cons hi
  generalize s[at_+m]=c at hx hdr
  have hc:=c.toNat_lt
  have e1:IntKind.i64.wrap ((at_:Int)+(m:Int))=((at_+m:Nat):Int):=by rw[Q1 _ (by omega) (by omega)];omega
  have hxp:(bx s)[(IntKind.i64.wrap ((at_:Int)+(m:Int))).toNat]?=some [u8 c]:=by rw[e1,k0u];exact y7p hx
  have hL:z3a ((s.drop (at_+m)).take (w - m))=z3a ((s.drop (at_+(m+1))).take (w - (m+1)))*256+c.toNat:=by
   rw[hdr,show w - m=(w - (m+1))+1 by omega,List.take_succ_cons];rfl
  have hlt:=x9f ((s.drop (at_+(m+1))).take (w - (m+1)))
  have hpw:256 ^ ((s.drop (at_+(m+1))).take (w - (m+1))).length≤256 ^ 3:=Nat.pow_le_pow_right (by omega) (by rw[k2u];omega)
  subst hv
  generalize z3a ((s.drop (at_+(m+1))).take (w - (m+1)))=n at hL hlt
  have ho:=u0b n c.toNat (by omega) hc
  refine x6 ?_
  refine u5 (y8 (z8 hT ?_))
  refine⟨by rw[e1];omega,Z1 hxp ?_⟩
  refine z8 hT ?_
  refine⟨m,by omega,_,z6 [] [0,1,7,8] rfl,IntKind.i64.wrap ((m:Int) - 1),_,Q1 _ (by omega) (by omega),by omega,?_,rfl⟩
  rw[hL];exact ho
 ·have h:=k0y (show decide (j≥0)=false from h)
  have hm0:m=0:=by omega
  subst hm0
  refine Q6 ?_
  refine z7 hT ?_
  refine u0 ?_
  rw[Nat.add_zero,Nat.sub_zero]at hv
  subst hv
  exact x7 [] ⟨rfl,rfl⟩ rfl
end Go.Proofs.YtkjklhcfgbaceaaGreat.AL
namespace Go.Proofs.YtkjklhcfgbaceaaGreat.AL
open Go Go.Proofs
theorem q7b (s t:x8):AF k0q y9z [bA s,bA t] [] (Q8 (bl (s==t)) []):=by
 refine Q7 hT Tryz.func126 rfl rfl Tryz.ntmps126 rfl ?_
 refine z7 hT ?_
 refine z7 hT ?_
 refine⟨s,rfl,?_⟩
 refine⟨t,rfl,?_⟩
 refine⟨s==t,by rw[ByteArray.toList_eq,ByteArray.toList_eq],?_⟩
 refine u0 ?_
 exact x7 [] ⟨rfl,rfl⟩ rfl
abbrev u4m (m:Int):ABlk:=.cells x8m [.ref 1 0,i64 m]
abbrev hH (D:Dev)(m:Int):List ABlk:=[u4m m,q3a D 2 3,.row Y4 4 (cx D.cells),.row Y0 2 (wx D.waits)]
abbrev w6u (a:Int)(s:x8):AV:=.agg [i64 a,bA s]
def Dev.hhas (D:Dev)(a:Int)(s:x8):(Bool × Int) × Dev:=match (D.read a).1.2==20 with
 |true=>((false,0),(D.read a).2)
 |false=>(((D.read a).1.2==0&&(D.read a).1.1==s,(D.read a).1.2),(D.read a).2)
theorem u0c {D E:Dev}{a:Int}{s x1:x8}{x2:Int}(h:D.read a=((x1,x2),E)):D.hhas a s=(match x2==20 with|true=>((false,0),E)|false=>((x2==0&&x1==s,x2),E)):=by
 unfold Dev.hhas;rw[h]
theorem v6g (D:Dev)(m a:Int)(s:x8)(b:Nat)(hD:D.Ok b)(hb:b≤1000000):AFm k0q 4 y4g [.ref 0 0,w6u a s] (hH D m) (Q8 (.tup [bl (D.hhas a s).1.1,i64 (D.hhas a s).1.2]) (hH (D.hhas a s).2 m)):=by
 have big:=hD.big hb
 have rd:=x1r D a big.2.1 big.2.2.1 big.2.2.2
 rcases hr:D.read a with ⟨⟨x1,x2⟩,E⟩
 have he:=u0c (s:=s) hr
 rw[hr]at rd
 generalize D.hhas a s=Z at he
 refine Z5 4 hT Tryz.func167 rfl rfl Tryz.ntmps167 rfl rfl ?_
 refine z7 hT ?_
 refine Z2 (Z3 4 [.raw (.int .i64 a),bP s] rfl rfl) ?_
 refine w9 ⟨⟨29,[(3,.p (.box [.raw (.int .i64 a),bP s])),(6,bA x1),(7,i64 x2)]⟩,hH E m⟩ True ?_ (fun _=>?_)
 ·refine Q9 [6] [] hT u6 (by rfl) ?_
  refine⟨_,_,Z7 [1,2,3] rd rfl rfl rfl,?_⟩
  exact⟨z6 [0,1,2,3] [3,6,7] rfl,trivial⟩
 refine u5 (z7 hT ?_)
 refine y6 (u7 (fun h=>?_) (fun h=>?_))
 ·have h:(x2==20)=true:=h
  rw[h]at he;subst he
  refine z7 hT ?_
  refine u0 ?_
  exact x7 [0,1,2,3] ⟨rfl,rfl⟩ rfl
 ·have h:(x2==20)=false:=h
  rw[h]at he;subst he
  refine x6 ?_
  refine z7 hT ?_
  refine u7 (fun h2=>?_) (fun h2=>?_)
  ·refine Q0 (Q4 (q7b x1 s) _ rfl rfl) ?_
   refine u0 ?_
   have h2:(x2==0)=true:=h2
   rw[h2]
   exact x7 [0,1,2,3] ⟨rfl,rfl⟩ rfl
  ·refine u0 ?_
   have h2:(x2==0)=false:=h2
   rw[h2]
   exact x7 [0,1,2,3] ⟨rfl,rfl⟩ rfl
def Dev.once (D:Dev)(a:Int)(s:x8):(Bool × Int) × Dev:=match (D.write a s).1 != 0 with
 |true=>((false,(D.write a s).1),(D.write a s).2)
 |false=>match (D.write a s).2.flush.1 != 0 with
  |true=>((false,(D.write a s).2.flush.1),(D.write a s).2.flush.2)
  |false=>(D.write a s).2.flush.2.hhas a s
theorem w9q (D:Dev)(m a:Int)(s:x8)(b:Nat)(hD:D.Ok b)(hb:b<1000000):AFm k0q 2 y2d [.ref 0 0,w6u a s] (hH D m) (Q8 (.tup [bl (D.once a s).1.1,i64 (D.once a s).1.2]) (hH (D.once a s).2 m)):=by
 have big:=hD.big (Nat.le_of_lt hb)
 have w1:=y7e D a s big.2.1
 have ok1:=hD.write a s
 have he:D.once a s=(match (D.write a s).1 != 0 with|true=>((false,(D.write a s).1),(D.write a s).2)|false=>match (D.write a s).2.flush.1 != 0 with|true=>((false,(D.write a s).2.flush.1),(D.write a s).2.flush.2)|false=>(D.write a s).2.flush.2.hhas a s):=rfl
 generalize D.write a s=W at he w1 ok1
 obtain⟨e1,D1⟩:=W
 replace ok1:D1.Ok (b+1):=ok1
 have big1:=ok1.big (show b+1≤1000000 by omega)
 have w2:=y7c D1 big1.1 big1.2.1
 have ok2:=ok1.flush
 replace he:D.once a s=(match e1 != 0 with|true=>((false,e1),D1)|false=>match D1.flush.1 != 0 with|true=>((false,D1.flush.1),D1.flush.2)|false=>D1.flush.2.hhas a s):=he
 generalize D1.flush=W at he w2 ok2
 obtain⟨e2,D2⟩:=W
 replace ok2:D2.Ok (b+1):=ok2
 have w3:=v6g D2 m a s (b+1) ok2 (by omega)
 replace he:D.once a s=(match e1 != 0 with|true=>((false,e1),D1)|false=>match e2 != 0 with|true=>((false,e2),D2)|false=>D2.hhas a s):=he
 generalize D2.hhas a s=Y at he w3
 obtain⟨⟨y1,y2⟩,D3⟩:=Y
 generalize D.once a s=Z at he
 refine Z5 2 hT Tryz.func124 rfl rfl Tryz.ntmps124 rfl rfl ?_
 refine z7 hT ?_
 refine Z2 (Z3 4 [.raw (.int .i64 a),bP s] rfl rfl) ?_
 refine w9 ⟨⟨33,[(0,.ref 0 0),(3,.p (.box [.raw (.int .i64 a),bP s]))]⟩,hH D1 m⟩ (e1=0) (u5 ?_) ?_
 ·refine Q9 [8] [] hT u6 (by rfl) ?_
  refine⟨_,_,Z7 [1,2,3] w1 rfl rfl rfl,?_⟩
  refine z7 hT ?_
  refine y6 (u7 (fun h=>?_) (fun h=>?_))
  ·have h:(e1 != 0)=true:=h
   rw[h]at he;subst he
   refine z7 hT ?_
   refine u0 ?_
   exact x7 [0,1,5,6] ⟨rfl,rfl⟩ rfl
  ·have h:(e1 != 0)=false:=h
   exact x6 ⟨z6 [0,1,5,6] [0,3] rfl,by simpa using h⟩
 rintro h1
 rw[show (e1 != 0)=false by simpa using h1]at he
 refine w9 ⟨⟨33,[(0,.ref 0 0),(3,.p (.box [.raw (.int .i64 a),bP s]))]⟩,hH D2 m⟩ (e2=0) (z7 hT ?_) ?_
 ·refine Q0 (Z7 [1,2,3] w2 rfl rfl rfl) ?_
  refine z7 hT ?_
  refine y6 (u7 (fun h=>?_) (fun h=>?_))
  ·have h:(e2 != 0)=true:=h
   rw[h]at he;subst he
   refine z7 hT ?_
   refine u0 ?_
   exact x7 [0,1,4,5] ⟨rfl,rfl⟩ rfl
  ·have h:(e2 != 0)=false:=h
   exact x6 ⟨z6 [0,1,4,5] [0,3] rfl,by simpa using h⟩
 rintro h2
 rw[show (e2 != 0)=false by simpa using h2]at he
 subst he
 refine z7 hT ?_
 refine Q0 (Z7 [0,1,2,3] w3 rfl rfl rfl) ?_
 refine u0 ?_
 exact x7 [0,1,2,3] ⟨rfl,rfl⟩ rfl
end Go.Proofs.YtkjklhcfgbaceaaGreat.AL
namespace Go.Proofs.YtkjklhcfgbaceaaGreat.AL
open Go Go.Proofs Go.Proofs.YtkjklhcfgbaceaaGreat.AL.Crc
def Blk.zero:Blk:=⟨0,0,0,0,0,[]⟩
def y0b (s:x8):Blk:=⟨((s.getD 2 0).toNat:Int),(q3s s 4 4:Nat),(q3s s 8 4:Nat),(q3s s 12 4:Nat),(q3s s 16 4:Nat),(s.drop 24).take (q3s s 20 2)⟩
def X8 (s:x8):Blk × Int:=match decide (s.length=256) with
 |false=>(Blk.zero,1)
 |true=>match !(q0s s)||decide ((q3s s 20 2:Int) > 228) with
  |true=>(Blk.zero,7)
  |false=>match (y0b s).sld.2 != 0||!(s==(y0b s).sld.1) with
   |true=>(Blk.zero,7)
   |false=>(y0b s,0)
abbrev x1y:List AV:=[i64 0,i64 0,i64 0,i64 0,i64 0,.p (.raw (.slice none 0 0))]
theorem q8i:LessCL x1y [i64 0,i64 0,i64 0,i64 0,i64 0,bA []]:=⟨.inl rfl,.inl rfl,.inl rfl,.inl rfl,.inl rfl,.inr (.inr (.inr ⟨1,rfl,rfl⟩)),trivial⟩
theorem z7v (s:x8)(hl:s.length≤1000000):AF k0q z9n [bA s] [] (Q8 (.tup [(X8 s).1.av,i64 (X8 s).2]) []):=by
 have hbl:=Z0 s
 refine Q7 hT Tryz.func128 rfl rfl Tryz.ntmps128 rfl ?_
 refine z7 hT ?_
 refine w9 ⟨⟨56,[(0,bA s),(2,.ref 0 0)]⟩,[.cells q1n x1y]⟩ (s.length=256) (z7 hT ?_) ?_
 ·refine y6 (u7 (fun h=>?_) (fun h=>?_))
  ·have h:(((bx s).length:Int) != 256)=true:=h
   have hne:s.length≠256:=by rw[hbl]at h;intro e;rw[e]at h;simp at h
   have eo:X8 s=(Blk.zero,1):=by unfold X8;rw[k1s hne]
   refine z7 hT ?_
   refine Z2 (V8 0 [i64 0,i64 0,i64 0,i64 0,i64 0,bA []] rfl q8i) ?_
   refine u0 ?_
   rw[eo]
   exact x7 [] ⟨rfl,rfl⟩ rfl
  ·have h:(((bx s).length:Int) != 256)=false:=h
   have he:s.length=256:=by
    rw[hbl]at h
    have:(s.length:Int)=256:=by simpa using h
    omega
   exact x6 ⟨z6 [0] [0,2] rfl,he⟩
 intro h256
 have hd:decide (s.length=256)=true:=k1t h256
 have w20:=q5r s 20 2 (by omega) (by omega) (by omega)
 have w4:=q5r s 4 4 (by omega) (by omega) (by omega)
 have w8:=q5r s 8 4 (by omega) (by omega) (by omega)
 have w12:=q5r s 12 4 (by omega) (by omega) (by omega)
 have w16:=q5r s 16 4 (by omega) (by omega) (by omega)
 refine z7 hT ?_
 refine Q0 (Q4 w20 _ rfl rfl) ?_
 refine w9 ⟨⟨56,[(0,bA s),(2,.ref 0 0),(4,i64 (q3s s 20 2:Nat))]⟩,[.cells q1n x1y]⟩ ((!(q0s s)||decide ((q3s s 20 2:Int) > 228))=false) (z7 hT ?_) ?_
 ·refine Q0 (Q4 (w9n s hl) _ rfl rfl) ?_
  have bad:(!(q0s s)||decide ((q3s s 20 2:Int) > 228))=true→X8 s=(Blk.zero,7):=fun h=>by unfold X8;rw[hd,h]
  refine u7 (fun h=>?_) (fun h=>?_)
  ·have h:(!(q0s s))=true:=h
   refine y6 ?_
   refine z7 hT ?_
   refine Z2 (V8 0 [i64 0,i64 0,i64 0,i64 0,i64 0,bA []] rfl q8i) ?_
   refine u0 ?_
   rw[bad (by rw[h];rfl)]
   exact x7 [] ⟨rfl,rfl⟩ rfl
  ·have h:(!(q0s s))=false:=h
   refine y6 (u7 (fun h2=>?_) (fun h2=>?_))
   ·have h2:decide ((q3s s 20 2:Int) > 228)=true:=h2
    refine z7 hT ?_
    refine Z2 (V8 0 [i64 0,i64 0,i64 0,i64 0,i64 0,bA []] rfl q8i) ?_
    refine u0 ?_
    rw[bad (by rw[h2,Bool.or_true])]
    exact x7 [] ⟨rfl,rfl⟩ rfl
   ·have h2:decide ((q3s s 20 2:Int) > 228)=false:=h2
    exact x6 ⟨z6 [0] [0,2,4] rfl,by rw[h,h2];rfl⟩
 intro hgood
 obtain⟨c2,hc2⟩:∃ c,s[2]?=some c:=⟨_,k0w (by omega)⟩
 have hg2:(bx s)[(2:Int).toNat]?=some [u8 c2]:=y7p hc2
 obtain⟨K,hK⟩:∃ K:Int,K=IntKind.i64.wrap (c2.toNat:Int):=⟨_,rfl⟩
 refine w9 ⟨⟨56,[(0,bA s),(2,.ref 0 0),(4,i64 (q3s s 20 2:Nat)),(5,.ref 1 0)]⟩,[.cells q1n x1y,.cells q1n [i64 K,i64 (q3s s 4 4:Nat),i64 (q3s s 8 4:Nat),i64 (q3s s 12 4:Nat),i64 (q3s s 16 4:Nat),.p (.raw (.slice none 0 0))]]⟩ True ?_ (fun _=>?_)
 ·refine Q9 [13,14] [] hT u6 (by rfl) ?_
  refine⟨by omega,Z1 hg2 ?_⟩
  refine⟨_,Q4 w4 _ rfl rfl,?_⟩
  refine⟨_,Q4 w8 _ rfl rfl,?_⟩
  refine⟨_,Q4 w12 _ rfl rfl,?_⟩
  refine⟨_,Q4 w16 _ rfl rfl,?_⟩
  refine⟨rfl,?_⟩
  refine⟨rfl,?_⟩
  refine⟨⟨_,Q4 w4 _ rfl rfl,rfl⟩,?_⟩
  refine⟨⟨_,Q4 w8 _ rfl rfl,rfl⟩,?_⟩
  refine⟨⟨_,Q4 w12 _ rfl rfl,rfl⟩,?_⟩
  refine⟨⟨_,Q4 w16 _ rfl rfl,rfl⟩,?_⟩
  rw[hK]
  exact⟨z6 [0,1] [0,2,4,5] rfl,trivial⟩
 have hc:=c2.toNat_lt
 rw[Q1 _ (by omega) (by omega)]at hK
 rw[Bool.or_eq_false_iff]at hgood
 have hlong:=k0y hgood.2
 have hbo:y0b s=⟨K,(q3s s 4 4:Nat),(q3s s 8 4:Nat),(q3s s 12 4:Nat),(q3s s 16 4:Nat),(s.drop 24).take (q3s s 20 2)⟩:=by
  unfold y0b
  rw[k0v,hc2,hK];rfl
 have eO:∀ b t e,y0b s=b→b.sld=(t,e)→X8 s=match e != 0||!(s==t) with|true=>(Blk.zero,7)|false=>(b,0):=fun b t e h1 h2=>by
  unfold X8
  rw[hd,hgood.1,hgood.2,h1,h2];rfl
 generalize hL:q3s s 20 2=L at hbo hlong
 obtain⟨Y,hY⟩:∃ Y:x8,Y=(s.drop 24).take L:=⟨_,rfl⟩
 have eW:IntKind.i64.wrap (24+(L:Int))=((24+L:Nat):Int):=by rw[Q1 _ (by omega) (by omega)];omega
 have eY:((bx s).take (IntKind.i64.wrap (24+(L:Int))).toNat).drop (24:Int).toNat=bx Y:=by
  rw[eW,k0u,hY,z9z,z2c,show (24:Int).toNat=24 from rfl,List.drop_take,Nat.add_sub_cancel_left]
 have wC:AF k0q q9w [.p (.sl 1 (((bx s).take (IntKind.i64.wrap (24+(L:Int))).toNat).drop (24:Int).toNat))] [] (Q8 (bA Y) []):=by
  rw[eY];exact x9b Y (by rw[hY,k2u,List.length_drop];omega)
 rw[← hY]at hbo
 generalize (q3s s 4 4:Int)=v at hbo
 generalize (q3s s 8 4:Int)=a at hbo
 generalize (q3s s 12 4:Int)=e' at hbo
 generalize (q3s s 16 4:Int)=q at hbo
 have hS:=q6d ⟨K,v,a,e',q,Y⟩
 have eO:=eO _ (Blk.sld ⟨K,v,a,e',q,Y⟩).1 (Blk.sld ⟨K,v,a,e',q,Y⟩).2 hbo rfl
 generalize Blk.sld ⟨K,v,a,e',q,Y⟩=Z at hS eO
 obtain⟨t,e⟩:=Z
 simp only at eO
 refine w9 ⟨⟨56,[(0,bA s),(2,.ref 0 0),(5,.ref 1 0)]⟩,[.cells q1n x1y,.cells q1n [i64 K,i64 v,i64 a,i64 e',i64 q,bA Y]]⟩ True (z8 hT ?_) (fun _=>?_)
 ·refine⟨⟨by omega,?_,?_⟩,?_⟩
  ·show 24≤IntKind.i64.wrap (24+(L:Int))
   rw[eW];omega
  ·show IntKind.i64.wrap (24+(L:Int))≤((bx s).length:Int)
   rw[eW,hbl];omega
  refine Q0 (Q4 wC _ rfl rfl) ?_
  exact⟨z6 [0,1] [0,2,5] rfl,trivial⟩
 refine w9 ⟨⟨56,[(2,.ref 0 0),(5,.ref 1 0)]⟩,[.cells q1n x1y,.cells q1n [i64 K,i64 v,i64 a,i64 e',i64 q,bA Y]]⟩ ((e != 0||!(s==t))=false) (z7 hT ?_) ?_
 ·refine Q0 (Q4 hS _ rfl rfl) ?_
  refine z7 hT ?_
  refine u7 (fun h1=>?_) (fun h1=>?_)
  ·have h1:(e != 0)=true:=h1
   rw[h1]at eO
   refine y6 ?_
   refine z7 hT ?_
   refine Z2 (V8 0 [i64 0,i64 0,i64 0,i64 0,i64 0,bA []] rfl q8i) ?_
   refine u0 ?_
   rw[eO]
   exact x7 [] ⟨rfl,rfl⟩ rfl
  ·have h1:(e != 0)=false:=h1
   rw[h1]at eO
   refine Q0 (Q4 (q7b s t) _ rfl rfl) ?_
   refine y6 (u7 (fun h2=>?_) (fun h2=>?_))
   ·have h2:(!(s==t))=true:=h2
    rw[h2]at eO
    refine z7 hT ?_
    refine Z2 (V8 0 [i64 0,i64 0,i64 0,i64 0,i64 0,bA []] rfl q8i) ?_
    refine u0 ?_
    rw[eO]
    exact x7 [] ⟨rfl,rfl⟩ rfl
   ·have h2:(!(s==t))=false:=h2
    exact x6 ⟨z6 [0,1] [2,5] rfl,by rw[h1,h2];rfl⟩
 intro h
 rw[h]at eO
 refine z7 hT ?_
 refine u0 ?_
 rw[eO]
 exact x7 [] ⟨rfl,rfl⟩ rfl
theorem x9g (n w:Nat)(hn:n<9000000000000000000)(hw:w≤8):AF k0q z1u [i64 n,i64 w] [] (Q8 (.msl 0 1 0 (bx (leB w n)).length) [.row y9 1 (bx (leB w n))]):=by
 refine Q7 hT Tryz.func105 rfl rfl Tryz.ntmps105 rfl ?_
 refine z7 hT ?_
 refine z7 hT ?_
 refine Z2 (Wk.trans (W9 y9 1) (q5f 5 0 1 0 rfl)) ?_
 refine u5 (z7 hT ?_)
 refine y8 ?_
 refine Q2 (fun m s=>∃ (i:Nat) (j v:Int) (L:x8),m+i=w∧j=i∧v=((n / 256 ^ i:Nat):Int)∧L=leB i n∧s=⟨⟨21,[(0,i64 v),(1,i64 w),(5,.msl 0 1 0 (bx L).length),(6,i64 j)]⟩,[.row y9 1 (bx L)]⟩) w ⟨⟨21,_⟩,[_]⟩ (z6 [0] [0,1,5,6] rfl) ⟨0,0,_,[],rfl,rfl,by rw[Nat.pow_zero,Nat.div_one],rfl,rfl⟩ ?_
 rintro m s ⟨i,j,v,L,hmi,rfl,rfl,hL,rfl⟩
 have hLl:L.length=i:=by rw[hL,q0f]
 have hbl:=Z0 L
 refine u5 (z7 hT ?_)
 refine y6 (u7 (fun h=>?_) (fun h=>?_))
 ·have hi:i<w:=by
   have:=k0z (show decide ((i:Int)<(w:Int))=true from h)
   omega
  refine x6 ?_
  refine w9 ⟨⟨21,[(0,i64 ((n / 256 ^ (i+1):Nat):Int)),(1,i64 w),(5,.msl 0 1 0 (bx (L++[UInt8.ofNat (n / 256 ^ i)])).length),(6,i64 i)]⟩,[.row y9 1 (bx (L++[UInt8.ofNat (n / 256 ^ i)]))]⟩ True (y8 (u5 (X3 (fun k=>Nat.beq 4 k) hT ?_))) (fun _=>?_)
  ·refine⟨⟨rfl,rfl⟩,?_⟩
   refine⟨rfl,⟨?_,?_⟩,?_⟩
   ·show ((bx L).length+1)*1≤140737488355328
    omega
   ·show (bx L).length+1≤140737488355328
    omega
   refine z8 hT ?_
   have hq:n / 256 ^ i≤n:=Nat.div_le_self _ _
   rw[z9y,show u8 (UInt8.ofNat (n / 256 ^ i))=PV.raw (.int .u8 (IntKind.u8.wrap (((n / 256 ^ i:Nat):Int).tmod 256))) by rw[v6e],y4u,← y7t _ 256 (by omega)]
   exact⟨z6 [1] [0,1,5,6] rfl,trivial⟩
  ·refine z8 hT ?_
   refine⟨m - 1,by omega,_,z6 [0] [0,1,5,6] rfl,i+1,IntKind.i64.wrap ((i:Int)+1),_,_,by omega,?_,rfl,by rw[hL,z9x],rfl⟩
   rw[Q1 _ (by omega) (by omega)];rfl
 ·have hi:¬ (i:Int)<(w:Int):=k0y h
  have hi4:i=w:=by omega
  subst hi4
  refine Q6 ?_
  refine z7 hT ?_
  refine u0 ?_
  subst hL
  exact x7 [0] ⟨rfl,rfl⟩ rfl
theorem q8j (n w:Nat)(hn:n<9000000000000000000)(hw:w≤8):AF k0q z1u [i64 n,i64 w] [] (Q8 (bA (leB w n)) []):=z3u (x9g n w hn hw) rfl
theorem q9z (b:Blk):AF k0q y4e [b.av] [] (Q8 (bl b.nums) []):=by
 refine Q7 hT Tryz.func104 rfl rfl Tryz.ntmps104 rfl ?_
 refine z7 hT ?_
 refine Z2 (Z3 0 b.pv rfl rfl) ?_
 have hk:∀ n:Int,Y7 n=(!(decide (n<0))&&!(decide (n > 4294967295))):=fun n=>by
  unfold Y7
  rw[← decide_not,← decide_not]
  congr 1
  ·exact decide_eq_decide.mpr (by omega)
  ·exact decide_eq_decide.mpr (by omega)
 unfold Blk.nums
 refine u5 (X3 (fun k=>Nat.beq 8 k) hT ?_)
 refine⟨⟨rfl,rfl⟩,?_⟩
 generalize hl:[b.vol,b.addr,b.epoch,b.seq]=l
 refine w9 ⟨⟨38,[(1,.p (.box b.pv))]⟩,[]⟩ (l.all Y7=true) ?_ ?_
 ·refine Z2 (s2:=⟨⟨38,[(1,.p (.box b.pv)),(3,.p (.sl 1 (ix l)))]⟩,[]⟩) (by rw[← hl];exact z6 [] [1,3] rfl) ?_
  have hll:l.length=4:=by rw[← hl];rfl
  refine z7 hT ?_
  refine y8 ?_
  refine Q2 (fun n s=>∃ (i:Nat) (j:Int),n+i=4∧j=i∧(l.take i).all Y7=true∧s=⟨⟨38,[(1,.p (.box b.pv)),(3,.p (.sl 1 (ix l))),(4,i64 j)]⟩,[]⟩) 4 ⟨⟨38,_⟩,[]⟩ (z6 [] [1,3,4] rfl) ⟨0,0,rfl,rfl,rfl,rfl⟩ ?_
  rintro n s ⟨i,j,hni,rfl,ht,rfl⟩
  refine u5 (z7 hT ?_)
  refine y6 (u7 (fun h=>?_) (fun h=>?_))
  ·have hi:i<l.length:=by
    have:=k0z (show decide ((i:Int)<4)=true from h)
    omega
   have hx:=k0w hi
   have hmem:=k1w hi
   have htk:l.take (i+1)=l.take i++[l[i]]:=by rw[k2t,hx];rfl
   generalize l[i]=c at hx htk hmem
   have hxp:(ix l)[((i:Nat):Int).toNat]?=some [.raw (.int .i64 c)]:=by rw[k0u];exact ixg hx
   have bad:Y7 c=false→l.all Y7=false:=fun h=>by
    rw[List.all_eq_false];exact⟨c,hmem,by rw[h];simp⟩
   refine x6 ?_
   refine w9 ⟨⟨38,[(1,.p (.box b.pv)),(3,.p (.sl 1 (ix l))),(4,i64 i)]⟩,[]⟩ (Y7 c=true) (y8 (z7 hT ?_)) ?_
   ·refine⟨k2w _,Z1 hxp ?_⟩
    refine u7 (fun h2=>?_) (fun h2=>?_)
    ·have h2:decide (c<0)=true:=h2
     refine y6 ?_
     refine z7 hT ?_
     refine u0 ?_
     rw[bad (by rw[hk,h2];rfl),Bool.and_false]
     exact x7 [] ⟨rfl,rfl⟩ rfl
    ·have h2:decide (c<0)=false:=h2
     refine⟨k2w _,Z1 hxp ?_⟩
     refine y6 (u7 (fun h3=>?_) (fun h3=>?_))
     ·have h3:decide (c > 4294967295)=true:=h3
      refine z7 hT ?_
      refine u0 ?_
      rw[bad (by rw[hk,h2,h3];rfl),Bool.and_false]
      exact x7 [] ⟨rfl,rfl⟩ rfl
     ·have h3:decide (c > 4294967295)=false:=h3
      exact x6 ⟨z6 [] [1,3,4] rfl,by rw[hk,h2,h3];rfl⟩
   ·intro hc
    refine z8 hT ?_
    refine⟨n - 1,by omega,_,z6 [] [1,3,4] rfl,i+1,IntKind.i64.wrap ((i:Int)+1),by omega,?_,?_,rfl⟩
    ·rw[Q1 _ (by omega) (by omega)];rfl
    ·rw[htk,List.all_append,ht];simp[hc]
  ·have hi:¬ (i:Int)<4:=k0y h
   have hil:i=l.length:=by omega
   subst hil
   rw[List.take_length]at ht
   refine Q6 ?_
   exact⟨z6 [] [1] rfl,ht⟩
 intro h
 rw[h,Bool.and_true]
 refine z7 hT ?_
 refine u7 (fun h1=>?_) (fun h1=>?_)
 ·rw[show decide (b.kind≥1)=true from h1]
  refine u0 ?_
  exact x7 [] ⟨rfl,rfl⟩ rfl
 ·rw[show decide (b.kind≥1)=false from h1]
  refine u0 ?_
  exact x7 [] ⟨rfl,rfl⟩ rfl
theorem x1z (w n:Nat)(l:List Nat):z6e w (n :: l)=leB w n++z6e w l:=rfl
theorem x9h (w:Nat):z6e w []=[]:=rfl
theorem x0g (k v a e q:Nat)(body:x8)(hn:(Blk.mk k v a e q body).nums=true)(hb:body.length≤228)(hv:v≤4294967295)(ha:a≤4294967295)(he:e≤4294967295)(hq:q≤4294967295) :
 AF k0q z9f [(Blk.mk k v a e q body).av] [] (Q8 (.tup [bA (J3 (Blk.mk k v a e q body).all),i64 0]) []):=by
 have hbl:=Z0 body
 have hall:=q6p (Blk.mk k v a e q body) hb
 refine Q7 hT Tryz.func58 rfl rfl Tryz.ntmps58 rfl ?_
 refine z7 hT ?_
 refine Z2 (Z3 0 (Blk.mk k v a e q body).pv rfl rfl) ?_
 have wn:=q9z (Blk.mk k v a e q body)
 rw[hn]at wn
 refine z7 hT ?_
 refine Q0 (Q4 wn _ rfl rfl) ?_
 refine u5 (z7 hT ?_)
 refine y6 ?_
 refine x6 ?_
 refine w9 ⟨⟨59,[(1,.p (.box (Blk.mk k v a e q body).pv))]⟩,[]⟩ True (z7 hT ?_) (fun _=>?_)
 ·refine y6 (u7 (fun h=>?_) (fun h=>?_))
  ·have h:=k0z (show decide (((bx body).length:Int) > 228)=true from h)
   omega
  ·exact x6 ⟨z6 [] [1] rfl,trivial⟩
 have key:∀ (L:x8) (r:x8),L.length≤400→r.length≤400→((bx L).length+(bx r).length)*1≤140737488355328∧(bx L).length+(bx r).length≤140737488355328:=fun L r h1 h2=>by
  rw[Z0,Z0];omega
 generalize hL0:([81,77,UInt8.ofNat k,0]:x8)=L0
 have l0:L0.length=4:=by rw[← hL0];rfl
 have b0:[[u8 81],[u8 77],[PV.raw (.int .u8 (IntKind.u8.wrap (k:Int)))],[u8 0]]=bx L0:=by rw[← hL0,q3h];rfl
 have w1:=q8j v 4 (by omega) (by omega)
 have w2:=q8j a 4 (by omega) (by omega)
 have w3:=q8j e 4 (by omega) (by omega)
 have w4:=q8j q 4 (by omega) (by omega)
 have w5:AF k0q z1u [i64 (bx body).length,i64 2] [] (Q8 (bA (leB 2 body.length)) []):=by rw[hbl];exact q8j body.length 2 (by omega) (by omega)
 have hhead:(Blk.mk k v a e q body).head=L0++leB 4 v++leB 4 a++leB 4 e++leB 4 q++leB 2 body.length++[0,0]:=by
  unfold Blk.head
  simp only[x1z,x9h,Int.toNat_natCast]
  rw[← hL0]
  simp only[List.append_assoc,List.append_nil]
  rfl
 have hA:(Blk.mk k v a e q body).all=L0++leB 4 v++leB 4 a++leB 4 e++leB 4 q++leB 2 body.length++[0,0]++body++List.replicate (228 - body.length) 0:=by
  unfold Blk.all
  rw[hhead]
 have n1:=q0f 4 v
 have n2:=q0f 4 a
 have n3:=q0f 4 e
 have n4:=q0f 4 q
 have n5:=q0f 2 body.length
 generalize leB 4 v=c1 at w1 hA n1
 generalize leB 4 a=c2 at w2 hA n2
 generalize leB 4 e=c3 at w3 hA n3
 generalize leB 4 q=c4 at w4 hA n4
 generalize leB 2 body.length=c5 at w5 hA n5
 generalize hAA:(Blk.mk k v a e q body).all=A at hA hall
 clear hhead hn wn hL0
 refine w9 ⟨⟨59,[(1,.p (.box (Blk.mk k v a e q body).pv)),(5,.msl 0 1 0 (bx L0).length)]⟩,[.row y9 1 (bx L0)]⟩ True (z8 hT ?_) (fun _=>?_)
 ·rw[← b0]
  exact⟨z6 [0] [1,5] rfl,trivial⟩
 refine w9 ⟨⟨59,[(1,.p (.box (Blk.mk k v a e q body).pv)),(5,.msl 0 1 0 (bx (L0++c1)).length)]⟩,[.row y9 1 (bx (L0++c1))]⟩ True (z8 hT ?_) (fun _=>?_)
 ·refine Q0 (Q4 w1 _ rfl rfl) ?_
  refine⟨rfl,key L0 c1 (by omega) (by omega),?_⟩
  rw[q3v]
  exact⟨z6 [1] [1,5] rfl,trivial⟩
 generalize h1:L0++c1=L1 at hA
 have l1:L1.length=8:=by rw[← h1,k1y];omega
 refine w9 ⟨⟨59,[(1,.p (.box (Blk.mk k v a e q body).pv)),(5,.msl 0 1 0 (bx (L1++c2)).length)]⟩,[.row y9 1 (bx (L1++c2))]⟩ True (z8 hT ?_) (fun _=>?_)
 ·refine Q0 (Q4 w2 _ rfl rfl) ?_
  refine⟨rfl,key L1 c2 (by omega) (by omega),?_⟩
  rw[q3v]
  exact⟨z6 [1] [1,5] rfl,trivial⟩
 generalize h2:L1++c2=L2 at hA
 have l2:L2.length=12:=by rw[← h2,k1y];omega
 refine w9 ⟨⟨59,[(1,.p (.box (Blk.mk k v a e q body).pv)),(5,.msl 0 1 0 (bx (L2++c3)).length)]⟩,[.row y9 1 (bx (L2++c3))]⟩ True (z8 hT ?_) (fun _=>?_)
 ·refine Q0 (Q4 w3 _ rfl rfl) ?_
  refine⟨rfl,key L2 c3 (by omega) (by omega),?_⟩
  rw[q3v]
  exact⟨z6 [1] [1,5] rfl,trivial⟩
 generalize h3:L2++c3=L3 at hA
 have l3:L3.length=16:=by rw[← h3,k1y];omega
 refine w9 ⟨⟨59,[(1,.p (.box (Blk.mk k v a e q body).pv)),(5,.msl 0 1 0 (bx (L3++c4)).length)]⟩,[.row y9 1 (bx (L3++c4))]⟩ True (z8 hT ?_) (fun _=>?_)
 ·refine Q0 (Q4 w4 _ rfl rfl) ?_
  refine⟨rfl,key L3 c4 (by omega) (by omega),?_⟩
  rw[q3v]
  exact⟨z6 [1] [1,5] rfl,trivial⟩
 generalize h4:L3++c4=L4 at hA
 have l4:L4.length=20:=by rw[← h4,k1y];omega
 refine w9 ⟨⟨59,[(1,.p (.box (Blk.mk k v a e q body).pv)),(5,.msl 0 1 0 (bx (L4++c5)).length)]⟩,[.row y9 1 (bx (L4++c5))]⟩ True (z8 hT ?_) (fun _=>?_)
 ·refine Q0 (Q4 w5 _ rfl rfl) ?_
  refine⟨rfl,key L4 c5 (by omega) (by omega),?_⟩
  rw[q3v]
  exact⟨z6 [1] [1,5] rfl,trivial⟩
 generalize h5:L4++c5=L5 at hA
 have l5:L5.length=22:=by rw[← h5,k1y];omega
 refine w9 ⟨⟨59,[(1,.p (.box (Blk.mk k v a e q body).pv)),(5,.msl 0 1 0 (bx (L5++[0,0])).length)]⟩,[.row y9 1 (bx (L5++[0,0]))]⟩ True (X3 (fun k=>Nat.beq 1 k) hT ?_) (fun _=>?_)
 ·refine⟨⟨rfl,rfl⟩,?_⟩
  refine⟨rfl,key L5 [0,0] (by omega) (by decide),?_⟩
  rw[q3v]
  exact⟨z6 [1] [1,5] rfl,trivial⟩
 generalize h6:L5++[0,0]=L6 at hA
 have l6:L6.length=24:=by rw[← h6,k1y];simp;omega
 refine w9 ⟨⟨59,[(5,.msl 0 1 0 (bx (L6++body)).length)]⟩,[.row y9 1 (bx (L6++body))]⟩ True (z8 hT ?_) (fun _=>?_)
 ·refine⟨rfl,key L6 body (by omega) (by omega),?_⟩
  rw[q3v]
  exact⟨z6 [1] [5] rfl,trivial⟩
 generalize h7:L6++body=L7 at hA
 have l7:L7.length=24+body.length:=by rw[← h7,k1y];omega
 have l7':L7.length≤252:=by omega
 rw[show 228 - body.length=252 - L7.length by omega]at hA
 clear h1 h2 h3 h4 h5 h6 h7
 refine w9 ⟨⟨59,[(5,.p (.sl 1 (bx A)))]⟩,[]⟩ True (y8 ?_) (fun _=>?_)
 ·refine Q2 (fun n s=>∃ L:x8,n+L.length=252∧A=L++List.replicate (252 - L.length) 0∧s=⟨⟨59,[(5,.msl 0 1 0 (bx L).length)]⟩,[.row y9 1 (bx L)]⟩) (252 - L7.length) ⟨⟨59,_⟩,[_]⟩ (z6 [0] [5] rfl) ⟨L7,by omega,hA,rfl⟩ ?_
  rintro n s ⟨L,hn,hAL,rfl⟩
  have hbL:=Z0 L
  refine u5 (z7 hT ?_)
  refine y6 (u7 (fun h=>?_) (fun h=>?_))
  ·have h:=k0z (show decide (((bx L).length:Int)<252)=true from h)
   refine x6 ?_
   refine y8 (X3 (fun k=>Nat.beq 1 k) hT ?_)
   refine⟨⟨rfl,rfl⟩,?_⟩
   refine⟨rfl,key L [0] (by omega) (by decide),?_⟩
   refine⟨n - 1,by omega,_,z6 [1] [5] rfl,L++[0],by rw[k1y];simp;omega,?_,by rw[q3v];rfl⟩
   rw[hAL,List.append_assoc,k1y,show ([0]:x8).length=1 from rfl,show 252 - L.length=252 - (L.length+1)+1 by omega,List.replicate_succ];rfl
  ·have h:=k0y (show decide (((bx L).length:Int)<252)=false from h)
   have h252:L.length=252:=by omega
   rw[h252,Nat.sub_self,List.replicate_zero,List.append_nil]at hAL
   refine Q6 ?_
   exact⟨Wk.trans (q1e 5 0 _ (by rw[hAL]) rfl rfl rfl) (z6 [] [5] rfl),trivial⟩
 refine z7 hT ?_
 refine Q0 (Q4 (w3w A (by omega)) _ rfl rfl) ?_
 refine u0 ?_
 exact x7 [] ⟨rfl,rfl⟩ rfl
theorem w3y (b:Blk):AF k0q z9f [b.av] [] (Q8 (.tup [bA b.sld.1,i64 b.sld.2]) []):=by
 cases hn:b.nums with
 |true=>
  cases hl:decide (b.body.length > 228) with
  |false=>
   have hl:=k0y hl
   have e:b.sld=(J3 b.all,0):=by unfold Blk.sld;rw[hn,k1s hl]
   obtain⟨k,v,a,e',q,hb,_,_,hv,ha,he,hq⟩:=y7v hn
   rw[e]
   rw[hb]at hn ⊢
   exact x0g k v a e' q b.body hn (by omega) hv ha he hq
  |true=>
   have e:b.sld=([],2):=by unfold Blk.sld;rw[hn,hl]
   have hbl:=Z0 b.body
   have hl:=k0z hl
   have wn:=q9z b
   rw[hn]at wn
   rw[e]
   refine Q7 hT Tryz.func58 rfl rfl Tryz.ntmps58 rfl ?_
   refine z7 hT ?_
   refine Z2 (Z3 0 b.pv rfl rfl) ?_
   refine z7 hT ?_
   refine Q0 (Q4 wn _ rfl rfl) ?_
   refine u5 (z7 hT ?_)
   refine y6 ?_
   refine x6 ?_
   refine u5 (z7 hT ?_)
   refine y6 (u7 (fun h=>?_) (fun h=>?_))
   ·refine z7 hT ?_
    refine Z2 (J8 2 1 rfl) ?_
    refine u0 ?_
    exact x7 [] ⟨rfl,rfl⟩ rfl
   ·have h:=k0y (show decide (((bx b.body).length:Int) > 228)=false from h)
    omega
 |false=>
  have e:b.sld=([],1):=by unfold Blk.sld;rw[hn]
  have wn:=q9z b
  rw[hn]at wn
  rw[e]
  refine Q7 hT Tryz.func58 rfl rfl Tryz.ntmps58 rfl ?_
  refine z7 hT ?_
  refine Z2 (Z3 0 b.pv rfl rfl) ?_
  refine z7 hT ?_
  refine Q0 (Q4 wn _ rfl rfl) ?_
  refine u5 (z7 hT ?_)
  refine y6 ?_
  refine z7 hT ?_
  refine Z2 (J8 2 1 rfl) ?_
  refine u0 ?_
  exact x7 [] ⟨rfl,rfl⟩ rfl
theorem q8k (l:x8):q0s (J3 l)=true:=by
 have h:=q3r l
 unfold q0s
 rw[k1t (show 4≤(J3 l).length by omega)]
 rw[show (J3 l).length - 4=l.length by omega]
 show ((J3 l).drop l.length==leB 4 (sum ((J3 l).take l.length)).toNat)=true
 unfold J3
 rw[List.drop_left,List.take_left]
 simp
end Go.Proofs.YtkjklhcfgbaceaaGreat.AL
namespace Go.Proofs.YtkjklhcfgbaceaaGreat.AL
open Go Go.Proofs
abbrev w64 (n:Int):AV:=.p (.raw (.int .u64 n))
abbrev inC (b:x8):ABlk:=.cells y2f [bA b]
theorem z6y (n:Int)(h0:0≤n)(h:n<18446744073709551616):IntKind.u64.wrap n=n:=by
 show n % 18446744073709551616=n
 omega
theorem u0d (b:x8)(_hb:b.length≤1000000):AFm k0q 1 z4d [.ref 0 0] [inC b] (Q8 (.tup [w64 (q1f b).1,i64 (q1f b).2.1,i64 (q1f b).2.2]) [inC b]):=by
 have hbl:=Z0 b
 refine Z5 1 hT Tryz.func206 rfl rfl Tryz.ntmps206 rfl rfl ?_
 refine z7 hT ?_
 refine u5 (z7 hT ?_)
 refine y6 ?_
 refine x6 ?_
 refine z7 hT ?_
 refine u5 (z7 hT ?_)
 refine y8 ?_
 refine Q2 (fun m s=>∃ (i:Nat) (j n p:Int) (N:Nat),m+i=b.length∧j=i∧i≤10∧n=(N:Nat)∧p=((128 ^ i:Nat):Int)∧N<128 ^ i∧q1f b=q2r i N (128 ^ i) (b.drop i)∧s=⟨⟨58,[(0,.ref 0 0),(5,w64 n),(6,w64 p),(14,bA b),(15,i64 (bx b).length),(16,i64 j)]⟩,[inC b]⟩) b.length ⟨⟨58,_⟩,[_]⟩ (z6 [0] [0,5,6,14,15,16] rfl) ⟨0,0,0,1,0,rfl,rfl,by omega,rfl,rfl,by simp,rfl,rfl⟩ ?_
 rintro m s ⟨i,j,n,p,N,hmi,rfl,hi10,hn,hp,hN,hlk,rfl⟩
 refine z7 hT ?_
 refine u5 (y6 (u7 (fun h=>?_) (fun h=>?_)))
 ·have hi:i<b.length:=by
   have:=k0z (show decide ((i:Int)<((bx b).length:Int))=true from h)
   omega
  have hx:=k0w hi
  have hdr:b.drop i=b[i] :: b.drop (i+1):=List.drop_eq_getElem_cons hi
  generalize b[i]=c at hx hdr
  have hxp:(bx b)[((i:Nat):Int).toNat]?=some [u8 c]:=by rw[k0u];exact y7p hx
  have hc:=c.toNat_lt
  refine x6 ?_
  rw[hdr]at hlk
  unfold q2r at hlk
  obtain⟨G,hG⟩:∃ G,G=(decide (i=10)||(decide (i=9)&&decide (c.toNat > 1))):=⟨_,rfl⟩
  rw[← hG]at hlk
  have e10:((i:Int)==10)=decide (i=10):=by
   by_cases e:i=10
   ·rw[k1t e,e];rfl
   ·rw[k1s e];exact beq_eq_false_iff_ne.mpr (by omega)
  have e9:((i:Int)==9)=decide (i=9):=by
   by_cases e:i=9
   ·rw[k1t e,e];rfl
   ·rw[k1s e];exact beq_eq_false_iff_ne.mpr (by omega)
  have ec:decide ((c.toNat:Int) > 1)=decide (c.toNat > 1):=decide_eq_decide.mpr (by omega)
  have ez:((c.toNat:Int)==0)=decide (c.toNat=0):=by
   by_cases e:c.toNat=0
   ·rw[k1t e,e];rfl
   ·rw[k1s e];exact beq_eq_false_iff_ne.mpr (by omega)
  have e8:decide ((c.toNat:Int)≥128)=decide (c.toNat≥128):=decide_eq_decide.mpr (by omega)
  have e0:decide ((i:Int) > 0)=decide (i > 0):=decide_eq_decide.mpr (by omega)
  refine u5 (y8 (z7 hT ?_))
  refine⟨k2w _,Z1 hxp ?_⟩
  refine w9 ⟨⟨58,[(0,.ref 0 0),(5,w64 n),(6,w64 p),(7,i64 i),(8,.p (u8 c))]⟩,[inC b]⟩ (q1f b=(N+c.toNat*128 ^ i,i+1,0)∧c.toNat<128∧(i=9→c.toNat≤1)∧i≤9) (y8 ?_) ?_
  ·refine w9 ⟨⟨58,[(0,.ref 0 0),(5,w64 n),(6,w64 p),(7,i64 i),(8,.p (u8 c)),(14,bA b),(15,i64 (bx b).length),(16,i64 i),(21,bl G)]⟩,[inC b]⟩ True (z7 hT ?_) (fun _=>?_)
   ·refine y6 (u7 (fun h1=>?_) (fun h1=>?_))
    ·have h1:((i:Int)==10)=true:=h1
     refine x6 ?_
     rw[show G=((i:Int)==10) by rw[hG,← e10,h1];rfl]
     exact⟨z6 [0] [0,5,6,7,8,14,15,16,21] rfl,trivial⟩
    ·have h1:((i:Int)==10)=false:=h1
     refine z8 hT ?_
     refine u7 (fun h2=>?_) (fun h2=>?_)
     ·have h2:((i:Int)==9)=true:=h2
      rw[show G=decide ((c.toNat:Int) > 1) by rw[hG,← e10,h1,← e9,h2,ec];rfl]
      exact⟨z6 [0] [0,5,6,7,8,14,15,16,21] rfl,trivial⟩
     ·have h2:((i:Int)==9)=false:=h2
      rw[show G=false by rw[hG,← e10,h1,← e9,h2];rfl]
      exact⟨z6 [0] [0,5,6,7,8,14,15,16,21] rfl,trivial⟩
   ·refine y6 (u7 (fun h1=>?_) (fun h1=>?_))
    ·have h1:G=true:=h1
     rw[h1]at hlk
     refine z7 hT ?_
     refine u0 ?_
     rw[hlk]
     exact x7 [0] ⟨rfl,rfl⟩ rfl
    ·have h1:G=false:=h1
     rw[h1]at hlk hG
     have go:(i=9→c.toNat≤1)∧i≤9:=by
      have h:=hG.symm
      rw[Bool.or_eq_false_iff,Bool.and_eq_false_iff]at h
      have a1:=k0y h.1
      refine⟨fun e=>?_,by omega⟩
      rcases h.2 with h|h
      ·exact absurd e (k0y h)
      ·have:=k0y h;omega
     refine z7 hT ?_
     refine y6 (u7 (fun h2=>?_) (fun h2=>?_))
     ·have h2:decide ((c.toNat:Int)≥128)=true:=h2
      rw[e8]at h2
      rw[h2]at hlk
      have h2:=k0z h2
      have i8:i≤8:=by
       rcases Nat.lt_or_ge i 9 with h|h
       ·omega
       ·have:=go.1 (by omega);omega
      have hpw:128 ^ i≤128 ^ 8:=Nat.pow_le_pow_right (by omega) i8
      have hmul:(c.toNat - 128)*128 ^ i≤127*128 ^ i:=k2v _ (by omega)
      have hsum:N+(c.toNat - 128)*128 ^ i<128 ^ (i+1):=by rw[Nat.pow_succ];omega
      have v1:IntKind.u64.wrap (n+IntKind.u64.wrap (IntKind.u64.wrap (IntKind.u8.wrap ((c.toNat:Int) - 128))*p))=((N+(c.toNat - 128)*128 ^ i:Nat):Int):=by
       rw[show IntKind.u8.wrap ((c.toNat:Int) - 128)=((c.toNat - 128:Nat):Int) by show ((c.toNat:Int) - 128) % 256=_;omega]
       rw[z6y ((c.toNat - 128:Nat):Int) (by omega) (by omega),hp,← Int.natCast_mul,z6y (((c.toNat - 128)*128 ^ i:Nat):Int) (by omega) (by omega),hn,z6y _ (by omega) (by omega)]
       omega
      have v2:IntKind.u64.wrap (p*128)=((128 ^ (i+1):Nat):Int):=by
       rw[hp,Nat.pow_succ]
       generalize 128 ^ i=Q at hpw
       rw[z6y _ (by omega) (by omega)]
       omega
      refine z7 hT ?_
      refine z7 hT ?_
      refine Q6 ?_
      refine z8 hT ?_
      refine⟨m - 1,by omega,_,z6 [0] [0,5,6,14,15,16] rfl,i+1,IntKind.i64.wrap ((i:Int)+1),_,_,N+(c.toNat - 128)*128 ^ i,by omega,?_,by omega,v1,v2,hsum,?_,rfl⟩
      ·rw[Q1 _ (by omega) (by omega)];rfl
      ·rw[hlk,Nat.pow_succ]
     ·have h2:decide ((c.toNat:Int)≥128)=false:=h2
      rw[e8]at h2
      rw[h2]at hlk
      have h2:=k0y h2
      refine z7 hT ?_
      refine u7 (fun h3=>?_) (fun h3=>?_)
      ·have h3:((c.toNat:Int)==0)=true:=h3
       rw[ez]at h3
       rw[h3]at hlk
       refine y6 (u7 (fun h4=>?_) (fun h4=>?_))
       ·have h4:decide ((i:Int) > 0)=true:=h4
        rw[e0]at h4
        rw[h4]at hlk
        refine z7 hT ?_
        refine u0 ?_
        rw[hlk]
        exact x7 [0] ⟨rfl,rfl⟩ rfl
       ·have h4:decide ((i:Int) > 0)=false:=h4
        rw[e0]at h4
        rw[h4]at hlk
        exact x6 ⟨z6 [0] [0,5,6,7,8] rfl,hlk,by omega,go⟩
      ·have h3:((c.toNat:Int)==0)=false:=h3
       rw[ez]at h3
       rw[h3]at hlk
       refine y6 ?_
       exact x6 ⟨z6 [0] [0,5,6,7,8] rfl,hlk,by omega,go⟩
  ·rintro⟨hlk,h128,h9,hi9⟩
   have hb2:N+c.toNat*128 ^ i<18446744073709551616∧c.toNat*128 ^ i<18446744073709551616:=by
    rcases Nat.lt_or_ge i 9 with h8|h8
    ·have h1:128 ^ i≤128 ^ 8:=Nat.pow_le_pow_right (by omega) (by omega)
     have h2:c.toNat*128 ^ i≤127*128 ^ 8:=Nat.mul_le_mul (by omega) h1
     omega
    ·have hi:i=9:=by omega
     have h1:=h9 hi
     subst hi
     have h2:c.toNat*128 ^ 9≤1*128 ^ 9:=k2v _ h1
     omega
   have v1:IntKind.u64.wrap (n+IntKind.u64.wrap (IntKind.u64.wrap (c.toNat:Int)*p))=((N+c.toNat*128 ^ i:Nat):Int):=by
    rw[z6y (c.toNat:Int) (by omega) (by omega),hp,← Int.natCast_mul,z6y ((c.toNat*128 ^ i:Nat):Int) (by omega) (by omega),hn,z6y _ (by omega) (by omega)]
    omega
   have v2:IntKind.i64.wrap ((i:Int)+1)=((i+1:Nat):Int):=by rw[Q1 _ (by omega) (by omega)];rfl
   refine z7 hT ?_
   refine u0 ?_
   rw[hlk]
   show ∃ u2 H2,_∧Q8 (.tup [w64 ((N+c.toNat*128 ^ i:Nat):Int),i64 ((i+1:Nat):Int),i64 0]) [inC b] u2 H2
   rw[← v1,← v2]
   exact x7 [0] ⟨rfl,rfl⟩ rfl
 ·have hi:¬ (i:Int)<((bx b).length:Int):=k0y h
  have hib:i=b.length:=by omega
  rw[List.drop_eq_nil_of_le (by omega)]at hlk
  refine Q6 ?_
  refine z7 hT ?_
  refine u0 ?_
  rw[hlk]
  exact x7 [0] ⟨rfl,rfl⟩ rfl
theorem u0e (b:x8):q1d b=match decide ((q1f b).2.2=0)&&decide ((q1f b).1≥2 ^ 63) with|true=>(0,0,7)|false=>((q1f b).1,(q1f b).2.1,(q1f b).2.2):=by
 unfold q1d;rfl
theorem v6h (b:x8)(hb:b.length≤1000000):AFm k0q 1 q9x [.ref 0 0] [inC b] (Q8 (.tup [i64 (q1d b).1,i64 (q1d b).2.1,i64 (q1d b).2.2]) [inC b]):=by
 have w:=u0d b hb
 have hlt:=x9a (b:=b)
 have hz:(q1f b).2.2≠0→(q1f b).1=0:=fun h=>(z5q b 0 0 1 h).1
 have hN:=u0e b
 generalize q1d b=Z at hN
 generalize q1f b=Y at w hlt hz hN
 obtain⟨n,k,e⟩:=Y
 have hN:Z=match decide (e=0)&&decide (n≥2 ^ 63) with|true=>(0,0,7)|false=>(n,k,e):=hN
 have w:AFm k0q 1 z4d [.ref 0 0] [inC b] (Q8 (.tup [w64 n,i64 k,i64 e]) [inC b]):=w
 have hlt:e=0→n<2 ^ 64:=fun h=>(hlt h).2.2.2.2
 have hz:e≠0→n=0:=hz
 refine Z5 1 hT Tryz.func171 rfl rfl Tryz.ntmps171 rfl rfl ?_
 refine z7 hT ?_
 refine z7 hT ?_
 refine Q0 (Z7 [0] w rfl rfl rfl) ?_
 refine w9 ⟨⟨24,[(5,w64 n),(6,i64 k),(7,i64 e)]⟩,[inC b]⟩ ((decide (e=0)&&decide (n≥2 ^ 63))=false) (z7 hT ?_) ?_
 ·have ee:(e==0)=decide (e=0):=by
   by_cases h:e=0
   ·rw[k1t h,h];rfl
   ·rw[k1s h];exact beq_eq_false_iff_ne.mpr h
  have en:decide ((n:Int)≥9223372036854775808)=decide (n≥2 ^ 63):=decide_eq_decide.mpr (by omega)
  refine u7 (fun h1=>?_) (fun h1=>?_)
  ·have h1:(e==0)=true:=h1
   rw[ee]at h1
   refine y6 (u7 (fun h2=>?_) (fun h2=>?_))
   ·have h2:decide ((n:Int)≥9223372036854775808)=true:=h2
    rw[en]at h2
    refine z7 hT ?_
    refine u0 ?_
    rw[h1,h2]at hN
    have hN:Z=(0,0,7):=hN
    subst hN
    exact x7 [0] ⟨rfl,rfl⟩ rfl
   ·have h2:decide ((n:Int)≥9223372036854775808)=false:=h2
    rw[en]at h2
    exact x6 ⟨z6 [0] [5,6,7] rfl,by rw[h1,h2];rfl⟩
  ·have h1:(e==0)=false:=h1
   rw[ee]at h1
   refine y6 ?_
   exact x6 ⟨z6 [0] [5,6,7] rfl,by rw[h1];rfl⟩
 ·intro h
  rw[h]at hN
  have hN:Z=(n,k,e):=hN
  subst hN
  have hn:n<2 ^ 63:=by
   by_cases he:e=0
   ·rw[k1t he,Bool.true_and]at h
    have:=k0y h;omega
   ·rw[hz he];omega
  have v:IntKind.i64.wrap (n:Int)=n:=Q1 _ (by omega) (by omega)
  refine z7 hT ?_
  refine u0 ?_
  show ∃ u2 H2,_∧Q8 (.tup [i64 (n:Int),i64 k,i64 e]) [inC b] u2 H2
  rw[show i64 (n:Int)=i64 (IntKind.i64.wrap (n:Int)) by rw[v]]
  exact x7 [0] ⟨rfl,rfl⟩ rfl
theorem v6i (b:x8):(q1d b).2.1≤b.length∧((q1d b).2.2≠0→(q1d b).2.1=0):=by
 have hok:=x9a (b:=b)
 have hz:(q1f b).2.2≠0→(q1f b).2.1=0:=fun h=>(z5q b 0 0 1 h).2
 unfold q1d
 generalize q1f b=Y at hok hz
 obtain⟨n,k,e⟩:=Y
 have hok:e=0→k≤b.length:=fun h=>(hok h).2.1
 have hz:e≠0→k=0:=hz
 show (match decide (e=0)&&decide (n≥2 ^ 63) with|true=>(0,0,7)|false=>(n,k,e):Nat × Nat × Int).2.1≤_∧((match decide (e=0)&&decide (n≥2 ^ 63) with|true=>(0,0,7)|false=>(n,k,e):Nat × Nat × Int).2.2≠0→(match decide (e=0)&&decide (n≥2 ^ 63) with|true=>(0,0,7)|false=>(n,k,e):Nat × Nat × Int).2.1=0)
 cases decide (e=0)&&decide (n≥2 ^ 63) with
 |true=>exact⟨Nat.zero_le _,fun _=>rfl⟩
 |false=>
  refine⟨?_,hz⟩
  show k≤_
  by_cases he:e=0
  ·exact hok he
  ·rw[hz he];exact Nat.zero_le _
theorem u3m (b:x8)(hb:b.length≤1000000):AFm k0q 1 z6v [.ref 0 0] [inC b] (Q8 (.tup [i64 (q1d b).1,i64 (q1d b).2.2]) [inC (b.drop (q1d b).2.1)]):=by
 have w:=v6h b hb
 have hk:=v6i b
 generalize q1d b=Y at w hk
 obtain⟨n,k,e⟩:=Y
 have w:AFm k0q 1 q9x [.ref 0 0] [inC b] (Q8 (.tup [i64 n,i64 k,i64 e]) [inC b]):=w
 have hk1:k≤b.length:=hk.1
 have hk2:e≠0→k=0:=hk.2
 have hbl:=Z0 b
 refine Z5 1 hT Tryz.func130 rfl rfl Tryz.ntmps130 rfl rfl ?_
 refine z7 hT ?_
 refine z7 hT ?_
 refine Q0 (Z7 [0] w rfl rfl rfl) ?_
 refine w9 ⟨⟨26,[(4,i64 n),(6,i64 e)]⟩,[inC (b.drop k)]⟩ True (z7 hT ?_) (fun _=>?_)
 ·refine y6 (u7 (fun h=>?_) (fun h=>?_))
  ·refine z8 hT ?_
   refine⟨⟨k2w _,by omega⟩,?_⟩
   show _∧True
   rw[show inC (b.drop k)=.cells y2f [.p (.sl 1 (((bx b).take ((bx b).length:Int).toNat).drop ((k:Nat):Int).toNat))] by rw[k0u,k0u,List.take_length,← z2c]]
   exact⟨z6 [0] [4,6] rfl,trivial⟩
  ·have h:(e==0)=false:=h
   have he:e≠0:=by intro e0;rw[e0]at h;exact absurd h (by decide)
   rw[hk2 he,List.drop_zero]
   exact x6 ⟨z6 [0] [4,6] rfl,trivial⟩
 ·refine z7 hT ?_
  refine u0 ?_
  exact x7 [0] ⟨rfl,rfl⟩ rfl
theorem w6v (n:Nat)(h:n<2 ^ 63):(q0d n).length≤9:=q5q 8 n (by rw[show (128:Nat) ^ 9=2 ^ 63 by decide];exact h)
abbrev u0f (at_:Nat)(b:x8):ABlk:=.cells z7r [.msl at_ 1 0 (bx b).length]
abbrev z7w (b:x8):List ABlk:=[u0f 1 b,.row y9 1 (bx b)]
theorem x9i (n:Int):AF k0q x0b [w64 n] [] (Q8 (.clo (.func z2z) [.ref 0 0]) [.cells z9r [w64 n]]):=by
 refine Q7 hT Tryz.func196 rfl rfl Tryz.ntmps196 rfl ?_
 refine z7 hT ?_
 refine z7 hT ?_
 refine u0 ?_
 exact x7 [0] ⟨rfl,rfl⟩ rfl
abbrev z4i (L:ABlk)(x:x8 × Int):List ABlk:=[u0f 4 x.1,.cells z1w [.ref 0 0],.cells z9r [w64 x.2],L,.row y9 1 (bx x.1)]
abbrev u5n (L:ABlk)(x:x8 × Int):List ABlk:=[u0f 5 x.1,.cells z1w [.ref 0 0],.cells z9r [w64 x.2],L,.dead,.row y9 1 (bx x.1)]
theorem w6w {args:List AV}{q:RecK}{l:List AV}{b b':x8}{m:Int}(hl:U7 4 l=true)(ha:U7 0 args=true)(h:AYm k0q 4 3 args (z4i (.lp q .ready none l) (b,m)) (fun r H'=>r=bl true∧H'=z4i (.lp q .ready none l) (b',m))) :
 AY k0q 3 args (z4i (.lp q .ready none l) (b,m)) (fun r H'=>r=bl true∧H'=u5n (.lp q .ready none l) (b',m)):=by
 have hid:∀ c,c<4→rho 5 [0,1,2,3,4] c=c:=fun c hc=>by
  rcases c with _|_|_|_|c
  ·rfl
  ·rfl
  ·rfl
  ·rfl
  ·omega
 have hid2:∀ c,c<4→q1h 5 [0,1,2,3] c=c:=fun c hc=>by
  rcases c with _|_|_|_|c
  ·rfl
  ·rfl
  ·rfl
  ·rfl
  ·omega
 refine v4k [0,1,2,3,4] h ⟨rfl,by decide,?_⟩ (show ∀ p∈[0,1,2,3,4],p<5 by decide) (by decide) rfl (q2v (fun c hc=>absurd hc (by omega)) args ha).symm ?_
 ·intro c k hk
  right
  rcases c with _|_|_|_|_|c
  ·obtain rfl:=k0x hk;exact⟨0,rfl,rfl⟩
  ·obtain rfl:=k0x hk;exact⟨1,rfl,rfl⟩
  ·obtain rfl:=k0x hk;exact⟨2,rfl,rfl⟩
  ·obtain rfl:=k0x hk
   refine⟨3,rfl,?_⟩
   show some (ABlk.lp q .ready none l)=some (ABlk.lp q .ready none (q3f (rho 5 [0,1,2,3,4]) l))
   rw[q2v hid l hl]
  ·obtain rfl:=k0x hk;exact⟨4,rfl,rfl⟩
  ·simp at hk
 ·rintro r1 H1' ⟨rfl,rfl⟩
  refine⟨show 4≤5 by decide,rfl,?_⟩
  show [_,_,_,ABlk.lp q .ready none (q3f (q1h 5 [0,1,2,3]) l),_,_]=_
  rw[q2v hid2 l hl]
  rfl
theorem w3z (q:RecK)(l:List AV)(b0:x8)(n:Nat)(hn:n<2 ^ 64)(hl:U7 4 l=true)
 (hy:∀ (b:x8) (m:Int) (c:UInt8),b.length≤b0.length+9→AYm k0q 4 3 [.p (u8 c)] (z4i (.lp q .ready none l) (b,m)) (fun r H'=>r=bl true∧H'=z4i (.lp q .ready none l) (b++[c],m))) :
 AFm k0q 4 z2z [.yld 3,.ref 2 0] (z4i (.lp q .ready none l) (b0,n)) (fun _ H'=>∃ m,H'=z4i (.lp q .ready none l) (b0++q0d n,m)):=by
 refine Z5 4 hT Tryz.func221 rfl rfl Tryz.ntmps221 rfl rfl ?_
 refine Q3 (fun s=>∃ (b:x8) (m:Nat) (v:Int),v=m∧m<128∧b.length≤b0.length+9∧b++[UInt8.ofNat m]=b0++q0d n∧s=⟨⟨18,[(0,.yld 3),(1,.ref 2 0)]⟩,z4i (.lp q .ready none l) (b,v)⟩) (y8 ?_) ?_
 ·refine Q2 (fun k s=>∃ (b:x8) (m:Nat) (v:Int),v=m∧k=m∧m<2 ^ 64∧(∃ j,b.length+j≤b0.length+9∧m<128 ^ (j+1))∧b++q0d m=b0++q0d n∧s=⟨⟨18,[(0,.yld 3),(1,.ref 2 0)]⟩,z4i (.lp q .ready none l) (b,v)⟩) n ⟨⟨18,_⟩,_⟩ (y4q [0,1]) ⟨b0,n,_,rfl,rfl,hn,⟨9,by omega,by omega⟩,rfl,rfl⟩ ?_
  rintro k s ⟨b,m,v,hv,rfl,hm,⟨j,hj,hmj⟩,hbn,rfl⟩
  refine u5 (z7 hT ?_)
  refine y6 (u7 (fun h=>?_) (fun h=>?_))
  ·have h:=k0z (show decide (v≥128)=true from h)
   have hm128:¬ k<128:=by omega
   rw[x5a hm128]at hbn
   refine x6 ?_
   have hj0:0<j:=by
    rcases Nat.eq_zero_or_pos j with rfl|h0
    ·omega
    ·exact h0
   obtain⟨j,rfl⟩:∃ i,j=i+1:=⟨j - 1,by omega⟩
   have y:AYm k0q 4 3 [.p (.raw (.int .u8 (IntKind.u8.wrap (IntKind.u8.wrap (v.tmod ((128:Nat):Int))+128))))] (z4i (.lp q .ready none l) (b,v)) (fun r H'=>r=bl true∧H'=z4i (.lp q .ready none l) (b++[UInt8.ofNat (k % 128+128)],v)):=by
    have e:IntKind.u8.wrap (IntKind.u8.wrap (v.tmod ((128:Nat):Int))+128)=((UInt8.ofNat (k % 128+128)).toNat:Int):=by
     rw[hv,y7s,← q3h]
     show (((k % 128:Nat):Int) % 256+128) % 256=((k % 128+128:Nat):Int) % 256
     omega
    rw[e]
    exact hy b v _ (by omega)
   refine y8 (u5 (z7 hT ?_))
   refine⟨_,w6w hl rfl y,?_⟩
   rintro r H' ⟨rfl,rfl⟩
   refine y6 ?_
   refine x6 ?_
   refine z8 hT ?_
   have hdiv:k / 128<128 ^ (j+1):=by rw[Nat.pow_succ]at hmj;exact Nat.div_lt_of_lt_mul (by rw[Nat.mul_comm];exact hmj)
   refine⟨k / 128,by omega,_,U6 3 [0,1,2,3,5] [0,1] _ rfl hl rfl rfl rfl,b++[UInt8.ofNat (k % 128+128)],k / 128,IntKind.u64.wrap (v.tdiv 128),?_,rfl,by omega,⟨j,by rw[k1y];simp;omega,hdiv⟩,by rw[List.append_assoc];exact hbn,rfl⟩
   rw[hv,Int.tdiv_eq_ediv_of_nonneg (k2w _),z6y _ (by omega) (by omega)]
   omega
  ·have h:=k0y (show decide (v≥128)=false from h)
   have hm128:k<128:=by omega
   rw[y4v hm128]at hbn
   refine Q6 ?_
   refine⟨_,y4q [0,1],b,k,v,hv,hm128,by omega,hbn,rfl⟩
 ·rintro s ⟨b,m,v,hv,hm,hb,hbn,rfl⟩
  have y:AYm k0q 4 3 [.p (.raw (.int .u8 (IntKind.u8.wrap v)))] (z4i (.lp q .ready none l) (b,v)) (fun r H'=>r=bl true∧H'=z4i (.lp q .ready none l) (b++[UInt8.ofNat m],v)):=by
   rw[hv,q3h]
   exact hy b _ _ hb
  refine z8 hT ?_
  refine⟨_,w6w hl rfl y,?_⟩
  rintro r H' ⟨rfl,rfl⟩
  exact⟨_,_,U6 3 [0,1,2,3,5] [0] _ rfl hl rfl rfl rfl,v,by rw[← hbn];rfl⟩
theorem w6x (b0:x8)(n:Nat)(hn:n<2 ^ 64)(hb:b0.length≤1000000):AFm k0q 1 y6q [.ref 0 0,w64 n] (z7w b0) (Q8 (.tup []) (z7w (b0++q0d n))):=by
 refine Z5 1 hT Tryz.func159 rfl rfl Tryz.ntmps159 rfl rfl ?_
 refine z7 hT ?_
 refine z7 hT ?_
 refine Q0 (q1i (x9i n) _ rfl) ?_
 refine y8 ?_
 have hlen:(q0d n).length≤10:=q5q 9 n (by omega)
 refine z1r 3 18 [0,2,3,4,1] [2,6] z4i (fun L (_:Unit)=>z4i L (b0,0)) (b0,(n:Int)) (fun x=>x.1=b0++q0d n) (fun _ _=>False) rfl rfl (fun L _=>⟨rfl,fun _=>rfl⟩) (fun L _=>⟨rfl,fun _=>rfl⟩) rfl ?_ ?_ ?_
 ·refine AFm.mono (w3z _ _ b0 n hn (z1x (by rfl)) ?_) ?_
  ·intro b m c hbl
   refine AYm.mono (y2i (J:=z4i) (Z:=fun L (_:Unit)=>z4i L (b0,0)) (a:=(b,m)) (Rnd:=fun x=>x=(b++[c],m)) (Stp:=fun _ _=>False) (fun L _=>⟨rfl,fun _=>rfl⟩) (fun L _=>⟨rfl,fun _=>rfl⟩) ?_ ?_ rfl rfl ?_) ?_
   ·exact fun t u ht=>z3y (ks:=[2,6]) rfl ht
   ·show ∀ p∈[7],p<18
    decide
   ·intro B l hl
    refine z8 hT ?_
    refine⟨rfl,?_⟩
    refine y8 ?_
    refine Q9 [6,7,10] [] hT u6 (by rfl) ?_
    have hb2:=Z0 b
    refine⟨rfl,⟨?_,?_⟩,?_⟩
    ·show ((bx b).length+1)*1≤140737488355328
     omega
    ·show (bx b).length+1≤140737488355328
     omega
    refine⟨rfl,?_⟩
    refine⟨rfl,?_⟩
    refine⟨rfl,?_⟩
    refine⟨rfl,?_⟩
    refine⟨(b++[c],m),⟨18,[]⟩,rfl,?_⟩
    show Wk _ _ ⟨_,[.cells z7r [.msl 4 1 0 (bx (b++[c])).length],.cells z1w [.ref 0 0],.cells z9r [w64 m],_,.row y9 1 (bx (b++[c]))]⟩
    rw[z9y]
    exact U6 3 [0,1,2,3,6] [] _ rfl hl rfl rfl rfl
   ·rintro r H' (⟨hr,a',rfl,hH⟩|⟨hr,c,z,h3,hH⟩)
    ·exact⟨hr,hH⟩
    ·exact h3.elim
  ·rintro r H' ⟨m,rfl⟩
   exact .inl ⟨(b0++q0d n,m),rfl,rfl⟩
 ·rintro⟨b,m⟩ hb'
  have hb':b=b0++q0d n:=hb'
  subst hb'
  exact x7 [0,4] ⟨rfl,rfl⟩ rfl
 ·intro _ _ h;exact h.elim
theorem w6y (b:x8)(n:Nat)(hn:n<2 ^ 63)(hb:b.length≤1000000):AFm k0q 1 y6n [.ref 0 0,i64 n] (z7w b) (Q8 (i64 0) (z7w (b++q0d n))):=by
 have w:=w6x b n (by omega) hb
 obtain⟨v,hv⟩:∃ v:Int,v=n:=⟨_,rfl⟩
 rw[← hv]at w ⊢
 rw[← z6y v (by omega) (by omega)]at w
 refine Z5 1 hT Tryz.func110 rfl rfl Tryz.ntmps110 rfl rfl ?_
 refine z7 hT ?_
 refine u5 (z7 hT ?_)
 refine y6 (u7 (fun h=>?_) (fun h=>?_))
 ·have h:=k0z (show decide (v<0)=true from h)
  omega
 refine x6 ?_
 refine z7 hT ?_
 refine Q0 (Z7 [0,1] w rfl rfl rfl) ?_
 refine z7 hT ?_
 refine u0 ?_
 exact x7 [0,2] ⟨rfl,rfl⟩ rfl
theorem w6z (b:x8)(hb:b.length≤1000000):AFm k0q 2 y6p [.ref 0 0] (z7w b) (Q8 (bA b) (z7w b)):=by
 refine Z5 2 hT Tryz.func111 rfl rfl Tryz.ntmps111 rfl rfl ?_
 refine z7 hT ?_
 refine u5 (z7 hT ?_)
 refine y6 ?_
 refine x6 ?_
 refine z7 hT ?_
 have flat:v4i [ABlk.row y9 1 (bx b)]:=by
  intro k hk
  simp only[List.mem_singleton]at hk
  subst hk
  intro e he u hu
  simp only[bx,List.mem_map]at he
  obtain⟨c,_,rfl⟩:=he
  simp only[List.mem_singleton]at hu
  subst hu
  trivial
 refine Q0 (z5m (x1s b hb) 1 rfl ⟨.inr (.inl ⟨rfl,rfl⟩),trivial⟩ rfl flat) ?_
 refine Z2 (q1e 2 2 _ rfl (Z0 b).symm rfl rfl) ?_
 refine u0 ?_
 exact x7 [0,1] ⟨rfl,rfl⟩ rfl
theorem w4a (b:x8)(hb:b.length≤1000000):AF k0q x4u [bA b] [] (Q8 (.ref 0 0) [inC b]):=by
 refine Q7 hT Tryz.func129 rfl rfl Tryz.ntmps129 rfl ?_
 refine z7 hT ?_
 refine z7 hT ?_
 refine Q0 (Q4 (z0j b hb) _ rfl rfl) ?_
 refine u0 ?_
 exact x7 [0] ⟨rfl,rfl⟩ rfl
def inR (n lo hi:Int):Bool:=decide (n≥lo)&&decide (n≤hi)
theorem x5c (n lo hi:Int):AF k0q v4w [i64 n,i64 lo,i64 hi] [] (Q8 (bl (inR n lo hi)) []):=by
 refine Q7 hT Tryz.func117 rfl rfl Tryz.ntmps117 rfl ?_
 refine z7 hT ?_
 unfold inR
 refine z7 hT ?_
 refine u7 (fun h=>?_) (fun h=>?_)
 ·rw[show decide (n≥lo)=true from h]
  refine u0 ?_
  exact x7 [] ⟨rfl,rfl⟩ rfl
 ·rw[show decide (n≥lo)=false from h]
  refine u0 ?_
  exact x7 [] ⟨rfl,rfl⟩ rfl
structure GeoV where
 w:Int
 s:Int
 k:Int
 m:Int
 deriving DecidableEq
abbrev GeoV.pv (g:GeoV):List PV:=[.raw (.int .i64 g.w),.raw (.int .i64 g.s),.raw (.int .i64 g.k),.raw (.int .i64 g.m)]
abbrev GeoV.av (g:GeoV):AV:=.agg [i64 g.w,i64 g.s,i64 g.k,i64 g.m]
def GeoV.fits (g:GeoV):Bool:=inR g.w 8 512&&inR g.s 1 32&&inR g.k 1 16&&inR g.m 1 8
def GeoV.may (g:GeoV):Bool:=g.fits&&decide (4+2*g.w+2*g.s*(g.k+g.m)≤4096)
def GeoV.room (g:GeoV):Int:=match g.may with|true=>g.s*g.k*228|false=>0
theorem V4 {g:GeoV}(h:g.fits=true):8≤g.w∧g.w≤512∧1≤g.s∧g.s≤32∧1≤g.k∧g.k≤16∧1≤g.m∧g.m≤8:=by
 unfold GeoV.fits inR at h
 simp only[Bool.and_eq_true,decide_eq_true_eq]at h
 omega
theorem z0p {g:GeoV}(h:g.fits=true):0≤g.s*(g.k+g.m)∧g.s*(g.k+g.m)≤768∧0≤g.s*g.k∧g.s*g.k≤512∧2*g.s*(g.k+g.m)=2*(g.s*(g.k+g.m)):=by
 obtain⟨h1,h2,h3,h4,h5,h6,h7,h8⟩:=V4 h
 have a:=Int.mul_le_mul (show g.s≤32 from h4) (show g.k+g.m≤24 by omega) (by omega) (by omega)
 have b:=Int.mul_le_mul (show g.s≤32 from h4) (show g.k≤16 by omega) (by omega) (by omega)
 exact⟨Int.mul_nonneg (by omega) (by omega),by omega,Int.mul_nonneg (by omega) (by omega),by omega,Int.mul_assoc _ _ _⟩
theorem y3j (g:GeoV)(h:g.fits=true):AF k0q z6u [g.av] [] (Q8 (i64 (4+2*g.w+2*g.s*(g.k+g.m))) []):=by
 obtain⟨h1,h2,h3,h4,h5,h6,h7,h8⟩:=V4 h
 obtain⟨m1,m2,m3,m4,m5⟩:=z0p h
 have wl:AF k0q z9i [g.av] [] (Q8 (i64 (4+2*g.w)) []):=by
  refine Q7 hT Tryz.func82 rfl rfl Tryz.ntmps82 rfl ?_
  refine z7 hT ?_
  refine Z2 (Z3 0 g.pv rfl rfl) ?_
  refine z7 hT ?_
  refine u0 ?_
  rw[show i64 (4+2*g.w)=i64 (IntKind.i64.wrap (4+IntKind.i64.wrap (2*g.w))) by rw[Q1 (2*g.w) (by omega) (by omega),Q1 _ (by omega) (by omega)]]
  exact x7 [] ⟨rfl,rfl⟩ rfl
 have ww:AF k0q y6k [g.av] [] (Q8 (i64 (g.k+g.m)) []):=by
  refine Q7 hT Tryz.func83 rfl rfl Tryz.ntmps83 rfl ?_
  refine z7 hT ?_
  refine Z2 (Z3 0 g.pv rfl rfl) ?_
  refine z7 hT ?_
  refine u0 ?_
  rw[show i64 (g.k+g.m)=i64 (IntKind.i64.wrap (g.k+g.m)) by rw[Q1 _ (by omega) (by omega)]]
  exact x7 [] ⟨rfl,rfl⟩ rfl
 refine Q7 hT Tryz.func118 rfl rfl Tryz.ntmps118 rfl ?_
 refine z7 hT ?_
 refine Z2 (Z3 0 g.pv rfl rfl) ?_
 refine u5 ?_
 refine Q9 [] [] hT u6 (by rfl) ?_
 refine⟨_,Q4 wl _ rfl rfl,?_⟩
 refine⟨_,Q4 ww _ rfl rfl,?_⟩
 refine u0 ?_
 rw[show i64 (4+2*g.w+2*g.s*(g.k+g.m))=i64 (IntKind.i64.wrap (4+2*g.w+IntKind.i64.wrap (IntKind.i64.wrap (2*g.s)*(g.k+g.m)))) by
  rw[Q1 (2*g.s) (by omega) (by omega),Q1 (2*g.s*(g.k+g.m)) (by omega) (by omega),Q1 _ (by omega) (by omega)]]
 exact x7 [] ⟨rfl,rfl⟩ rfl
theorem q9i (g:GeoV):AF k0q w8v [g.av] [] (Q8 (bl g.may) []):=by
 refine Q7 hT Tryz.func63 rfl rfl Tryz.ntmps63 rfl ?_
 refine z7 hT ?_
 refine Z2 (Z3 0 g.pv rfl rfl) ?_
 refine w9 ⟨⟨28,[(1,.p (.box g.pv)),(3,bl g.fits)]⟩,[]⟩ True (z8 hT ?_) (fun _=>?_)
 ·unfold GeoV.fits
  refine Q0 (Q4 (x5c g.w 8 512) _ rfl rfl) ?_
  refine u7 (fun h=>?_) (fun h=>?_)
  ·rw[show inR g.w 8 512=true from h]
   refine Q0 (Q4 (x5c g.s 1 32) _ rfl rfl) ?_
   refine u7 (fun h=>?_) (fun h=>?_)
   ·rw[show inR g.s 1 32=true from h]
    refine Q0 (Q4 (x5c g.k 1 16) _ rfl rfl) ?_
    refine u7 (fun h=>?_) (fun h=>?_)
    ·rw[show inR g.k 1 16=true from h]
     refine Q0 (Q4 (x5c g.m 1 8) _ rfl rfl) ?_
     exact⟨z6 [] [1,3] rfl,trivial⟩
    ·rw[show inR g.k 1 16=false from h]
     exact⟨z6 [] [1,3] rfl,trivial⟩
   ·rw[show inR g.s 1 32=false from h]
    exact⟨z6 [] [1,3] rfl,trivial⟩
  ·rw[show inR g.w 8 512=false from h]
   exact⟨z6 [] [1,3] rfl,trivial⟩
 unfold GeoV.may
 refine z7 hT ?_
 refine u7 (fun h=>?_) (fun h=>?_)
 ·have h:g.fits=true:=h
  rw[h]
  refine Q0 (Q4 (y3j g h) _ rfl rfl) ?_
  refine u0 ?_
  exact x7 [] ⟨rfl,rfl⟩ rfl
 ·rw[show g.fits=false from h]
  refine u0 ?_
  exact x7 [] ⟨rfl,rfl⟩ rfl
theorem w9r (g:GeoV)(h:g.fits=true):AF k0q z9p [g.av] [] (Q8 (i64 (g.s*g.k*228)) []):=by
 obtain⟨m1,m2,m3,m4,m5⟩:=z0p h
 refine Q7 hT Tryz.func160 rfl rfl Tryz.ntmps160 rfl ?_
 refine z7 hT ?_
 refine Z2 (Z3 0 g.pv rfl rfl) ?_
 refine z7 hT ?_
 refine u0 ?_
 rw[show i64 (g.s*g.k*228)=i64 (IntKind.i64.wrap (IntKind.i64.wrap (g.s*g.k)*228)) by
  rw[Q1 (g.s*g.k) (by omega) (by omega),Q1 _ (by omega) (by omega)]]
 exact x7 [] ⟨rfl,rfl⟩ rfl
theorem y7w (g:GeoV):AF k0q w3f [g.av] [] (Q8 (i64 g.room) []):=by
 have wo:AF k0q y6m [g.av,.clo (.func z9p) []] [] (Q8 (i64 g.room) []):=by
  refine Q7 hT Tryz.func99 rfl rfl Tryz.ntmps99 rfl ?_
  refine z7 hT ?_
  refine Z2 (Z3 0 g.pv rfl rfl) ?_
  unfold GeoV.room
  refine u5 (z7 hT ?_)
  refine Q0 (Q4 (q9i g) _ rfl rfl) ?_
  refine y6 (u7 (fun h=>?_) (fun h=>?_))
  ·have h:(!g.may)=true:=h
   rw[Bool.not_eq_true']at h
   rw[h]
   refine z7 hT ?_
   refine u0 ?_
   exact x7 [] ⟨rfl,rfl⟩ rfl
  ·have h:(!g.may)=false:=h
   rw[Bool.not_eq_false']at h
   rw[h]
   have hf:g.fits=true:=by unfold GeoV.may at h;rw[k1u]at h;exact h.1
   refine x6 ?_
   refine z7 hT ?_
   refine Q0 (Q4 (w9r g hf) _ rfl rfl) ?_
   refine u0 ?_
   exact x7 [] ⟨rfl,rfl⟩ rfl
 refine Q7 hT Tryz.func114 rfl rfl Tryz.ntmps114 rfl ?_
 refine z7 hT ?_
 refine Z2 (Z3 0 g.pv rfl rfl) ?_
 refine z7 hT ?_
 refine Q0 (Q4 wo _ rfl rfl) ?_
 refine u0 ?_
 exact x7 [] ⟨rfl,rfl⟩ rfl
theorem x9j (g:GeoV):(g.fits=true)=(8≤g.w∧g.w≤512∧1≤g.s∧g.s≤32∧1≤g.k∧g.k≤16∧1≤g.m∧g.m≤8):=by
 refine propext ⟨V4,fun h=>?_⟩
 unfold GeoV.fits inR
 simp only[Bool.and_eq_true,decide_eq_true_eq]
 omega
theorem z5r (g:GeoV):AF k0q x7u [g.av] [] (Q8 (bl g.may) []):=by
 have no:¬ (8≤g.w∧g.w≤512∧1≤g.s∧g.s≤32∧1≤g.k∧g.k≤16∧1≤g.m∧g.m≤8)→g.may=false:=fun h=>by
  have h2:g.fits=false:=by rw[← Bool.not_eq_true,x9j];exact h
  unfold GeoV.may;rw[h2];rfl
 refine AF.mono (R:=fun r H'=>∃ b,b=g.may∧r=bl b∧H'=[]) ?_ (by rintro r H' ⟨b,rfl,rfl,rfl⟩;exact⟨rfl,rfl⟩)
 refine Q7 hT Tryz.func36 rfl rfl Tryz.ntmps36 rfl ?_
 refine z7 hT ?_
 refine Z2 (Z3 0 g.pv rfl rfl) ?_
 refine w9 ⟨⟨56,[(1,.p (.box g.pv))]⟩,[]⟩ (g.fits=true) (z7 hT ?_) ?_
 ·skip
  refine u7 (fun h0=>?_) (fun h0=>?_)
  ·skip
   have h0:=k0z (show decide (g.w<8)=true from h0)
   refine y6 ?_
   refine z7 hT ?_
   refine u0 ?_
   exact x7 [] ⟨_,(no (by omega)).symm,rfl,rfl⟩ rfl
  ·have h0:=k0y (show decide (g.w<8)=false from h0)
   refine u7 (fun h1=>?_) (fun h1=>?_)
   ·skip
    have h1:=k0z (show decide (g.w > 512)=true from h1)
    refine y6 ?_
    refine z7 hT ?_
    refine u0 ?_
    exact x7 [] ⟨_,(no (by omega)).symm,rfl,rfl⟩ rfl
   ·have h1:=k0y (show decide (g.w > 512)=false from h1)
    refine u7 (fun h2=>?_) (fun h2=>?_)
    ·skip
     have h2:=k0z (show decide (g.s<1)=true from h2)
     refine y6 ?_
     refine z7 hT ?_
     refine u0 ?_
     exact x7 [] ⟨_,(no (by omega)).symm,rfl,rfl⟩ rfl
    ·have h2:=k0y (show decide (g.s<1)=false from h2)
     refine u7 (fun h3=>?_) (fun h3=>?_)
     ·skip
      have h3:=k0z (show decide (g.s > 32)=true from h3)
      refine y6 ?_
      refine z7 hT ?_
      refine u0 ?_
      exact x7 [] ⟨_,(no (by omega)).symm,rfl,rfl⟩ rfl
     ·have h3:=k0y (show decide (g.s > 32)=false from h3)
      refine u7 (fun h4=>?_) (fun h4=>?_)
      ·skip
       have h4:=k0z (show decide (g.k<1)=true from h4)
       refine y6 ?_
       refine z7 hT ?_
       refine u0 ?_
       exact x7 [] ⟨_,(no (by omega)).symm,rfl,rfl⟩ rfl
      ·have h4:=k0y (show decide (g.k<1)=false from h4)
       refine u7 (fun h5=>?_) (fun h5=>?_)
       ·skip
        have h5:=k0z (show decide (g.k > 16)=true from h5)
        refine y6 ?_
        refine z7 hT ?_
        refine u0 ?_
        exact x7 [] ⟨_,(no (by omega)).symm,rfl,rfl⟩ rfl
       ·have h5:=k0y (show decide (g.k > 16)=false from h5)
        refine u7 (fun h6=>?_) (fun h6=>?_)
        ·skip
         have h6:=k0z (show decide (g.m<1)=true from h6)
         refine y6 ?_
         refine z7 hT ?_
         refine u0 ?_
         exact x7 [] ⟨_,(no (by omega)).symm,rfl,rfl⟩ rfl
        ·have h6:=k0y (show decide (g.m<1)=false from h6)
         refine y6 (u7 (fun h7=>?_) (fun h7=>?_))
         ·skip
          have h7:=k0z (show decide (g.m > 8)=true from h7)
          skip
          refine z7 hT ?_
          refine u0 ?_
          exact x7 [] ⟨_,(no (by omega)).symm,rfl,rfl⟩ rfl
         ·have h7:=k0y (show decide (g.m > 8)=false from h7)
          exact x6 ⟨z6 [] [1] rfl,by rw[x9j];omega⟩
 intro hf
 obtain⟨h1,h2,h3,h4,h5,h6,h7,h8⟩:=V4 hf
 obtain⟨m1,m2,m3,m4,m5⟩:=z0p hf
 refine z7 hT ?_
 refine u0 ?_
 refine x7 [] ⟨_,?_,rfl,rfl⟩ rfl
 show decide (IntKind.i64.wrap (IntKind.i64.wrap (4+IntKind.i64.wrap (2*g.w))+IntKind.i64.wrap (IntKind.i64.wrap (2*g.s)*IntKind.i64.wrap (g.k+g.m)))≤4096)=_
 unfold GeoV.may
 rw[hf,Bool.true_and,Q1 (2*g.w) (by omega) (by omega),Q1 (4+2*g.w) (by omega) (by omega),Q1 (2*g.s) (by omega) (by omega),Q1 (g.k+g.m) (by omega) (by omega),Q1 (2*g.s*(g.k+g.m)) (by omega) (by omega),Q1 _ (by omega) (by omega)]
def U3 (l:List Int):x8:=l.flatMap fun n=>q0d n.toNat
theorem z7x (l:List Int)(n:Int):U3 (l++[n])=U3 l++q0d n.toNat:=by unfold U3;simp
def q6e (b:x8):x8 × x8 × Int:=match (q1d b).2.2 != 0 with
 |true=>([],b,(q1d b).2.2)
 |false=>match decide ((q1d b).1 > 4096) with
  |true=>([],b,2)
  |false=>match decide ((q1d b).2.1+(q1d b).1 > b.length) with
   |true=>([],b,6)
   |false=>((b.drop (q1d b).2.1).take (q1d b).1,(b.drop (q1d b).2.1).drop (q1d b).1,0)
def z2d (s:x8):x8:=q0d s.length++s
theorem x0h (s r:x8)(hs:s.length≤4096):q6e (z2d s++r)=(s,r,0):=by
 unfold q6e z2d
 rw[List.append_assoc,y2p _ _ (by omega)]
 show (match decide (s.length > 4096) with
  |true=>([],q0d s.length++(s++r),2)
  |false=>match decide ((q0d s.length).length+s.length > (q0d s.length++(s++r)).length) with
   |true=>([],q0d s.length++(s++r),6)
   |false=>(((q0d s.length++(s++r)).drop (q0d s.length).length).take s.length,((q0d s.length++(s++r)).drop (q0d s.length).length).drop s.length,0):x8 × x8 × Int)=_
 rw[k1s (show ¬ s.length > 4096 by omega),k1s (show ¬ (q0d s.length).length+s.length > (q0d s.length++(s++r)).length by simp only[List.length_append];omega)]
 simp
theorem u4n (b:x8)(i j:Nat):((bx b).take j).drop i=bx ((b.take j).drop i):=by rw[z2c,z9z]
theorem u4p (b:x8)(k n:Nat):(b.take (k+n)).drop k=(b.drop k).take n:=by rw[List.drop_take,Nat.add_sub_cancel_left]
theorem v6j (b:x8)(hb:b.length≤1000000):AFm k0q 1 z2y [.ref 0 0] [inC b] (Q8 (.tup [bA (q6e b).1,i64 (q6e b).2.2]) [inC (q6e b).2.1]):=by
 refine AFm.mono (R:=fun r H'=>∃ z,z=q6e b∧r=.tup [bA z.1,i64 z.2.2]∧H'=[inC z.2.1]) ?_ (by rintro r H' ⟨b,rfl,rfl,rfl⟩;exact⟨rfl,rfl⟩)
 have w:=v6h b hb
 have hk:=(v6i b).1
 have hn:=u0a b
 have hz:q6e b=match (q1d b).2.2 != 0 with
  |true=>([],b,(q1d b).2.2)
  |false=>match decide ((q1d b).1 > 4096) with
   |true=>([],b,2)
   |false=>match decide ((q1d b).2.1+(q1d b).1 > b.length) with
    |true=>([],b,6)
    |false=>((b.drop (q1d b).2.1).take (q1d b).1,(b.drop (q1d b).2.1).drop (q1d b).1,0):=rfl
 generalize q6e b=Z at hz
 generalize q1d b=Y at w hk hn hz
 obtain⟨n,k,e⟩:=Y
 have w:AFm k0q 1 q9x [.ref 0 0] [inC b] (Q8 (.tup [i64 n,i64 k,i64 e]) [inC b]):=w
 have hz:Z=match e != 0 with
  |true=>([],b,e)
  |false=>match decide (n > 4096) with
   |true=>([],b,2)
   |false=>match decide (k+n > b.length) with
    |true=>([],b,6)
    |false=>((b.drop k).take n,(b.drop k).drop n,0):=hz
 have hk:k≤b.length:=hk
 have hn:n<2 ^ 63:=hn
 have hbl:=Z0 b
 refine Z5 1 hT Tryz.func131 rfl rfl Tryz.ntmps131 rfl rfl ?_
 refine z7 hT ?_
 refine w9 ⟨⟨53,[(0,.ref 0 0),(4,i64 n),(5,i64 k),(6,i64 e)]⟩,[inC b]⟩ True (z8 hT ?_) (fun _=>?_)
 ·refine Q0 (Z7 [0] w rfl rfl rfl) ?_
  exact⟨z6 [0] [0,4,5,6] rfl,trivial⟩
 refine w9 ⟨⟨53,[(0,.ref 0 0),(4,i64 n),(5,i64 k)]⟩,[inC b]⟩ (k+n≤b.length∧Z=((b.drop k).take n,(b.drop k).drop n,0)) (y8 (z7 hT ?_)) ?_
 ·refine y6 (u7 (fun h=>?_) (fun h=>?_))
  ·have h:(e != 0)=true:=h
   rw[h]at hz
   refine z7 hT ?_
   refine Z2 (J8 2 1 rfl) ?_
   refine u0 ?_
   exact x7 [0] ⟨_,hz.symm,rfl,rfl⟩ rfl
  have h:(e != 0)=false:=h
  rw[h]at hz
  refine z7 hT ?_
  refine y6 (u7 (fun h1=>?_) (fun h1=>?_))
  ·have h1:=k0z (show decide ((n:Int) > 4096)=true from h1)
   rw[k1t (show n > 4096 by omega)]at hz
   refine z7 hT ?_
   refine Z2 (J8 2 1 rfl) ?_
   refine u0 ?_
   exact x7 [0] ⟨_,hz.symm,rfl,rfl⟩ rfl
  have h1:=k0y (show decide ((n:Int) > 4096)=false from h1)
  rw[k1s (show ¬ n > 4096 by omega)]at hz
  have hw:IntKind.i64.wrap (((bx b).length:Int) - k)=((b.length - k:Nat):Int):=by rw[hbl,Q1 _ (by omega) (by omega)];omega
  refine z7 hT ?_
  refine y6 (u7 (fun h2=>?_) (fun h2=>?_))
  ·have h2:=k0z (show decide ((n:Int) > IntKind.i64.wrap (((bx b).length:Int) - k))=true from h2)
   rw[hw]at h2
   rw[k1t (show k+n > b.length by omega)]at hz
   refine z7 hT ?_
   refine Z2 (J8 2 1 rfl) ?_
   refine u0 ?_
   exact x7 [0] ⟨_,hz.symm,rfl,rfl⟩ rfl
  have h2:=k0y (show decide ((n:Int) > IntKind.i64.wrap (((bx b).length:Int) - k))=false from h2)
  rw[hw]at h2
  rw[k1s (show ¬ k+n > b.length by omega)]at hz
  exact x6 ⟨z6 [0] [0,4,5] rfl,by omega,hz⟩
 rintro⟨hkn,hz⟩
 have hw:IntKind.i64.wrap ((k:Int)+n)=((k+n:Nat):Int):=by rw[Q1 _ (by omega) (by omega)];omega
 have w2:AF k0q q0u [.p (.sl 1 (((bx b).take (IntKind.i64.wrap ((k:Int)+n)).toNat).drop ((k:Nat):Int).toNat))] [] (Q8 (bA ((b.drop k).take n)) []):=by
  rw[hw,k0u,k0u,u4n,u4p]
  exact z0j _ (by rw[k2u,List.length_drop];omega)
 refine w9 ⟨⟨53,[(0,.ref 0 0),(4,i64 n),(5,i64 k),(7,bA ((b.drop k).take n))]⟩,[inC b]⟩ True (z8 hT ?_) (fun _=>?_)
 ·refine⟨⟨k2w _,by rw[hw];omega,by rw[hw];omega⟩,?_⟩
  refine Q0 (Q4 w2 _ rfl rfl) ?_
  exact⟨z6 [0] [0,4,5,7] rfl,trivial⟩
 refine Q3 (fun s=>∃ X,X=bx ((b.drop k).drop n)∧s=⟨⟨53,[(7,bA ((b.drop k).take n))]⟩,[.cells y2f [.p (.sl 1 X)]]⟩) (z8 hT ?_) ?_
 ·refine⟨⟨by rw[hw];exact k2w _,by rw[hw];omega⟩,?_⟩
  refine⟨_,z6 [0] [7] rfl,_,?_,rfl⟩
  rw[hw,k0u,k0u,List.take_length,← z2c,List.drop_drop]
 ·rintro _ ⟨X,rfl,rfl⟩
  refine z7 hT ?_
  refine u0 ?_
  exact x7 [0] ⟨_,hz.symm,rfl,rfl⟩ rfl
theorem w9s (b s:x8)(hb:b.length≤900000)(hs:s.length≤4096):AFm k0q 1 y2e [.ref 0 0,bA s] (z7w b) (Q8 (i64 0) (z7w (b++z2d s))):=by
 have w:=w6x b s.length (by omega) (by omega)
 have hbl:=Z0 s
 have hl:(q0d s.length).length≤9:=w6v _ (by omega)
 refine Z5 1 hT Tryz.func133 rfl rfl Tryz.ntmps133 rfl rfl ?_
 refine z7 hT ?_
 refine u5 (y8 (z7 hT ?_))
 refine y6 ?_
 refine z7 hT ?_
 refine y6 (u7 (fun h=>?_) (fun h=>?_))
 ·have h:=k0z (show decide (((bx s).length:Int) > 4096)=true from h)
  omega
 refine x6 ?_
 rw[← hbl]at w
 obtain⟨v,hv⟩:∃ v:Int,v=((bx s).length:Int):=⟨_,rfl⟩
 rw[← hv]at w
 rw[← z6y v (by omega) (by omega)]at w
 refine w9 ⟨⟨26,[(0,.ref 0 0),(1,bA s)]⟩,z7w (b++q0d (bx s).length)⟩ True (z8 hT ?_) (fun _=>?_)
 ·rw[hv]at w
  refine Q0 (Z7 [0,1] w rfl rfl rfl) ?_
  exact⟨z6 [0,2] [0,1] rfl,trivial⟩
 generalize hB:b++q0d (bx s).length=B
 have hBl:=Z0 B
 have hBn:B.length≤900009:=by rw[← hB,k1y,hbl];omega
 refine z7 hT ?_
 refine⟨rfl,⟨?_,?_⟩,?_⟩
 ·show ((bx B).length+(bx s).length)*1≤_
  omega
 ·show (bx B).length+(bx s).length≤_
  omega
 refine z7 hT ?_
 refine u0 ?_
 rw[z2d,← hbl,← List.append_assoc,hB]
 show ∃ u2 H2,_∧Q8 (i64 0) [.cells z7r [.msl 1 1 0 (bx (B++s)).length],.row y9 1 (bx (B++s))] u2 H2
 rw[q3v]
 exact x7 [0,2] ⟨rfl,rfl⟩ rfl
theorem y2q (l:List Int)(hl:l.length≤1000000):AF k0q x7x [.p (.sl 1 (ix l))] [] (Q8 (bl (l.all Y7)) []):=by
 refine Q7 hT Tryz.func64 rfl rfl Tryz.ntmps64 rfl ?_
 refine z7 hT ?_
 refine w9 ⟨⟨18,[]⟩,[]⟩ (l.all Y7=true) (z7 hT ?_) ?_
 ·refine y8 ?_
  refine Q2 (fun n s=>∃ (i:Nat) (j:Int),n+i=l.length∧j=i∧(l.take i).all Y7=true∧s=⟨⟨18,[(5,.p (.sl 1 (ix l))),(6,i64 l.length),(7,i64 j)]⟩,[]⟩) l.length ⟨⟨18,_⟩,[]⟩ (z6 [] [5,6,7] rfl) ⟨0,0,rfl,rfl,rfl,by rw[← ixl l];rfl⟩ ?_
  rintro n s ⟨i,j,hni,rfl,ht,rfl⟩
  refine z7 hT ?_
  refine u5 (y6 (u7 (fun h=>?_) (fun h=>?_)))
  ·have hi:i<l.length:=by
    have:=k0z (show decide ((i:Int)<(l.length:Int))=true from h)
    omega
   have hx:=k0w hi
   have hmem:=k1w hi
   have htk:l.take (i+1)=l.take i++[l[i]]:=by rw[k2t,hx];rfl
   generalize l[i]=c at hx htk hmem
   have hxp:(ix l)[((i:Nat):Int).toNat]?=some [.raw (.int .i64 c)]:=by rw[k0u];exact ixg hx
   have bad:Y7 c=false→l.all Y7=false:=fun h=>by
    rw[List.all_eq_false];exact⟨c,hmem,by rw[h];simp⟩
   refine x6 ?_
   refine w9 ⟨⟨18,[(5,.p (.sl 1 (ix l))),(6,i64 l.length),(7,i64 i)]⟩,[]⟩ (Y7 c=true) (y8 (z7 hT ?_)) ?_
   ·refine⟨k2w _,Z1 hxp ?_⟩
    refine z7 hT ?_
    refine u7 (fun h2=>?_) (fun h2=>?_)
    ·have h2:=k0z (show decide (c<0)=true from h2)
     refine y6 ?_
     refine z7 hT ?_
     refine u0 ?_
     rw[bad (by unfold Y7;rw[k1s (by omega)];rfl)]
     exact x7 [] ⟨rfl,rfl⟩ rfl
    ·have h2:=k0y (show decide (c<0)=false from h2)
     refine y6 (u7 (fun h3=>?_) (fun h3=>?_))
     ·have h3:=k0z (show decide (c > 4294967295)=true from h3)
      refine z7 hT ?_
      refine u0 ?_
      rw[bad (by unfold Y7;rw[k1s (show ¬ c≤4294967295 by omega),Bool.and_false])]
      exact x7 [] ⟨rfl,rfl⟩ rfl
     ·have h3:=k0y (show decide (c > 4294967295)=false from h3)
      exact x6 ⟨z6 [] [5,6,7] rfl,by unfold Y7;rw[k1t (show 0≤c by omega),k1t (show c≤4294967295 by omega)];rfl⟩
   ·intro hc
    refine z8 hT ?_
    refine⟨n - 1,by omega,_,z6 [] [5,6,7] rfl,i+1,IntKind.i64.wrap ((i:Int)+1),by omega,?_,?_,rfl⟩
    ·rw[Q1 _ (by omega) (by omega)];rfl
    ·rw[htk,List.all_append,ht];simp[hc]
  ·have hi:¬ (i:Int)<(l.length:Int):=k0y h
   have hil:i=l.length:=by omega
   subst hil
   rw[List.take_length]at ht
   refine Q6 ?_
   exact⟨z6 [] [] rfl,ht⟩
 ·intro h
  rw[h]
  refine z7 hT ?_
  refine u0 ?_
  exact x7 [] ⟨rfl,rfl⟩ rfl
end Go.Proofs.YtkjklhcfgbaceaaGreat.AL
namespace Go.Proofs.YtkjklhcfgbaceaaGreat.AL
open Go Go.Proofs Go.Proofs.YtkjklhcfgbaceaaGreat.AL.Crc
theorem v6k (k n:Nat):leB (k+1) n=UInt8.ofNat n :: leB k (n / 256):=by
 unfold leB
 rw[List.range_succ_eq_map,List.map_cons,List.map_map]
 congr 1
 ·rw[Nat.pow_zero,Nat.div_one]
 ·apply List.map_congr_left
  intro j _
  show UInt8.ofNat (n / 256 ^ (j+1))=UInt8.ofNat (n / 256 / 256 ^ j)
  rw[Nat.pow_succ,Nat.mul_comm,Nat.div_div_eq_div_mul]
theorem q7t:∀ k n,z3a (leB k n)=n % 256 ^ k
 |0,n=>by show 0=n % 1;omega
 |k+1,n=>by
  rw[v6k,z3a,q7t k,UInt8.toNat_ofNat',show (256:Nat) ^ (k+1)=256*256 ^ k by rw[Nat.pow_succ,Nat.mul_comm],Nat.mod_mul,Nat.mul_comm]
  omega
theorem y0c {s p c r:x8}{a w n:Nat}(hs:s=p++(c++r))(hp:p.length=a)(hc:c.length=w)(hl:z3a c=n):q3s s a w=n:=by
 subst hs;subst hp;subst hc
 unfold q3s
 rw[List.drop_left,List.take_left];exact hl
theorem z5s {b:Blk}(hn:b.nums=true)(hb:b.body.length≤228):X8 (J3 b.all)=(b,0):=by
 obtain⟨k,v,a,e,q,hbk,k1,k4,hv,ha,he,hq⟩:=y7v hn
 generalize hbody:b.body=body at hbk hb
 have hall:=q6p b (by rw[hbody];exact hb)
 have hs:J3 b.all=[81,77,UInt8.ofNat k,0]++(leB 4 v++(leB 4 a++(leB 4 e++(leB 4 q++(leB 2 body.length++(leB 2 0++(body++(List.replicate (228 - body.length) 0++leB 4 (sum b.all).toNat)))))))):=by
  show b.all++leB 4 (sum b.all).toNat=_
  have:b.all=[81,77,UInt8.ofNat k,0]++(leB 4 v++(leB 4 a++(leB 4 e++(leB 4 q++(leB 2 body.length++(leB 2 0++(body++List.replicate (228 - body.length) 0))))))):=by
   unfold Blk.all Blk.head
   rw[hbk]
   simp only[x1z,x9h,Int.toNat_natCast,List.append_assoc,List.append_nil]
  generalize leB 4 (sum b.all).toNat=z
  rw[this]
  simp only[List.append_assoc]
 have hlen:=q3r b.all
 have hw:=q8k b.all
 have hseal:b.sld=(J3 b.all,0):=by unfold Blk.sld;rw[hn,k1s (by rw[hbody];omega)]
 generalize J3 b.all=s at hs hlen hw hseal
 have l4:=fun n=>q0f 4 n
 have n20:q3s s 20 2=body.length:=y0c (p:=[81,77,UInt8.ofNat k,0]++(leB 4 v++(leB 4 a++(leB 4 e++leB 4 q)))) (c:=leB 2 body.length) (by rw[hs];simp only[List.append_assoc];rfl) (by simp only[List.length_append,l4];rfl) (q0f _ _) (by rw[q7t];omega)
 have n4:q3s s 4 4=v:=y0c (p:=[81,77,UInt8.ofNat k,0]) (c:=leB 4 v) hs rfl (q0f _ _) (by rw[q7t];omega)
 have n8:q3s s 8 4=a:=y0c (p:=[81,77,UInt8.ofNat k,0]++leB 4 v) (c:=leB 4 a) (by rw[hs];simp only[List.append_assoc];rfl) (by simp only[List.length_append,l4];rfl) (q0f _ _) (by rw[q7t];omega)
 have n12:q3s s 12 4=e:=y0c (p:=[81,77,UInt8.ofNat k,0]++(leB 4 v++leB 4 a)) (c:=leB 4 e) (by rw[hs];simp only[List.append_assoc];rfl) (by simp only[List.length_append,l4];rfl) (q0f _ _) (by rw[q7t];omega)
 have n16:q3s s 16 4=q:=y0c (p:=[81,77,UInt8.ofNat k,0]++(leB 4 v++(leB 4 a++leB 4 e))) (c:=leB 4 q) (by rw[hs];simp only[List.append_assoc];rfl) (by simp only[List.length_append,l4];rfl) (q0f _ _) (by rw[q7t];omega)
 have hd:(s.drop 24).take body.length=body:=by
  have e1:s=([81,77,UInt8.ofNat k,0]++(leB 4 v++(leB 4 a++(leB 4 e++(leB 4 q++(leB 2 body.length++leB 2 0))))))++(body++(List.replicate (228 - body.length) 0++leB 4 (sum b.all).toNat)):=by rw[hs];simp only[List.append_assoc]
  have e2:([81,77,UInt8.ofNat k,0]++(leB 4 v++(leB 4 a++(leB 4 e++(leB 4 q++(leB 2 body.length++leB 2 0)))))).length=24:=by simp only[List.length_append,l4,q0f];rfl
  rw[e1,← e2,List.drop_left,List.take_left]
 have hk:s.getD 2 0=UInt8.ofNat k:=by rw[hs];rfl
 have hblk:y0b s=b:=by
  unfold y0b
  rw[n20,n4,n8,n12,n16,hd,hk,hbk,UInt8.toNat_ofNat']
  congr 1
  omega
 unfold X8
 rw[hw,n20,hblk,hseal,k1t (show s.length=256 by omega),k1s (show ¬ (body.length:Int) > 228 by omega)]
 show (match (0:Int) != 0||!(s==s) with|true=>(Blk.zero,7)|false=>(b,0):Blk × Int)=_
 rw[show (s==s)=true from beq_self_eq_true s]
 rfl
theorem w9t (s:x8):(X8 s).1.body.length≤s.length:=by
 unfold X8
 split
 ·exact Nat.zero_le _
 ·split
  ·exact Nat.zero_le _
  ·split
   ·exact Nat.zero_le _
   ·show ((s.drop 24).take _).length≤_
    rw[k2u,List.length_drop];omega
end Go.Proofs.YtkjklhcfgbaceaaGreat.AL
