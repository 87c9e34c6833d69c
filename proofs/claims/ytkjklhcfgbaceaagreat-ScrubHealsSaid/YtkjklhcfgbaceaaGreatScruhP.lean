/- A part of the proof. -/
import Derived.Test.YtkjklhcfgbaceaaGreatScruhO
open Go.Proofs.Tryz renaming prog→k0q
open Option.some renaming inj→k0x
open List renaming getElem?_eq_getElem→k0w,getD_eq_getElem?_getD→k0v,getElem?_eq_some_iff→k0t,getElem?_append_left→k0s,getElem?_append_right→k1q,getElem?_map→k1z,length_append→k1y,length_map→k1x,getElem_mem→k1w,mem_of_getElem?→k2x,length_take→k2u,take_add_one→k2t,getElem?_range→k2s,length_range→k3q
open Int renaming toNat_natCast→k0u
open Nat renaming le_refl→k1v,mul_le_mul_right→k2v
open Bool renaming and_eq_true→k1u
set_option maxHeartbeats 4000000
set_option maxRecDepth 20000
namespace Go.Proofs.YtkjklhcfgbaceaaGreat.AL
open Go Go.Proofs
def flX (l:List Flt):List (List PV):=l.map Flt.pv
theorem x6d (l:List Flt):(flX l).length=l.length:=by simp[flX]
theorem x6e {l:List Flt}{i:Nat}{c:Flt}(h:l[i]?=some c):(flX l)[i]?=some c.pv:=by rw[flX,k1z,h];rfl
/-- All sectors are read. -/
def Dev.secR (D:Dev):Nat→List x8 × Dev
 |0=>([],D)
 |k+1=>((D.secR k).1++[((D.secR k).2.read k).1.1],((D.secR k).2.read k).2)
theorem w7y {D:Dev}{b:Nat}(h:D.Ok b):∀ k,(D.secR k).2.Ok b
 |0=>h
 |k+1=>(w7y h k).read _
theorem z4z (D:Dev):∀ k,(D.secR k).1.length=k
 |0=>rfl
 |k+1=>by show ((D.secR k).1++[_]).length=_;rw[k1y,z4z D k];rfl
theorem w5h (D:Dev)(a:Int):(D.read a).2.cells=D.cells:=by
 unfold Dev.read
 split
 ·rfl
 ·split <;> rfl
theorem z2p (D:Dev):∀ k,(D.secR k).2.cells=D.cells
 |0=>rfl
 |k+1=>(w5h _ _).trans (z2p D k)
theorem w5i (l:List x8)(s:x8):x9 (l++[s])=x9 l++[[bP s]]:=by simp[x9]
theorem z7g (D:Dev)(b:Nat)(hD:D.Ok b)(hb:b≤1000000)(N:Nat)(hN:D.cells.length=N)(hN2:N≤100000) :
 AFm k0q 3 q7i [.ref 0 0] (Y0 D) (Q8 (.p (.sl 1 (x9 (D.secR N).1))) (Y0 (D.secR N).2)):=by
 have k0:=w7y hD
 have kl:=z4z D
 have kc:=z2p D
 have ks:∀ k,D.secR (k+1)=((D.secR k).1++[((D.secR k).2.read k).1.1],((D.secR k).2.read k).2):=fun k=>rfl
 have kz:D.secR 0=([],D):=rfl
 refine AFm.mono (R:=fun r H'=>∃ z,z=D.secR N∧r=.p (.sl 1 (x9 z.1))∧H'=Y0 z.2) ?_ (by rintro r H' ⟨z,rfl,rfl,rfl⟩;exact⟨rfl,rfl⟩)
 generalize D.secR=F at k0 kl kc ks kz ⊢
 refine Z5 3 hT Tryz.func14 rfl rfl Tryz.ntmps14 rfl rfl ?_
 refine z7 hT ?_
 refine w9 ⟨⟨24,[(0,.ref 0 0),(3,.msl 3 1 0 (x9 ([]:List x8)).length)]⟩,Y0 D++[.row y7 1 (x9 ([]:List x8))]⟩ True (z8 hT ?_) (fun _=>?_)
 ·exact⟨Wk.trans (V0 y7 1) (Wk.trans (q4p 3 3 1 0 rfl) (z6 [0,1,2,3] [0,3] rfl)),trivial⟩
 refine Q3 (fun st=>∃ (X:List x8) (E:Dev),(X,E)=F N∧st=⟨⟨24,[(3,.msl 3 1 0 (x9 X).length)]⟩,Y0 E++[.row y7 1 (x9 X)]⟩) (z7 hT ?_) ?_
 ·refine y8 ?_
  refine Q2 (fun n st=>∃ (k:Nat) (j:Int) (X:List x8) (E:Dev),n+k=N∧j=k∧(X,E)=F k∧st=⟨⟨24,[(0,.ref 0 0),(3,.msl 3 1 0 (x9 X).length),(4,i64 j)]⟩,Y0 E++[.row y7 1 (x9 X)]⟩) N ⟨⟨24,_⟩,_⟩ (z6 [0,1,2,3] [0,3,4] rfl) ⟨0,0,[],D,rfl,rfl,kz.symm,rfl⟩ ?_
  rintro n st ⟨k,j,X,E,hnk,hj,hX,rfl⟩
  have hXl:X.length=k:=by have:=kl k;rw[← hX]at this;exact this
  have hcl:=Y4 X
  have hEo:E.Ok b:=by have:=k0 k;rw[← hX]at this;exact this
  have hEc:E.cells.length=N:=by have:=kc k;rw[← hX]at this;rw[← hN];exact congrArg List.length this
  refine u6 (z7 hT ?_)
  refine Q1 (Z7 [0,1,2] (y7b E) rfl rfl rfl) ?_
  refine y6 (u7 (fun h=>?_) (fun h=>?_))
  ·have h:=k0z (show decide (j<(E.cells.length:Int))=true from h)
   have rd:=y2k E j (by have:=hEo.wl;omega) (fun x hx=>by have:=hEo.ws x hx;omega) (fun c hc=>by have:=hEo.cs c hc;omega)
   have e1:F (k+1)=(X++[(E.read j).1.1],(E.read j).2):=by rw[ks,← hX,hj]
   generalize E.read j=Y at rd e1
   obtain⟨⟨t,f⟩,G⟩:=Y
   have rd:AFm k0q 3 q6d [.ref 0 0,i64 j] (Y0 E) (Q8 (.tup [bA t,i64 f]) (Y0 G)):=rd
   have e1:F (k+1)=(X++[t],G):=e1
   refine x6 ?_
   refine w9 ⟨⟨24,[(0,.ref 0 0),(3,.msl 3 1 0 (x9 (X++[t])).length),(4,i64 j)]⟩,Y0 G++[.row y7 1 (x9 (X++[t]))]⟩ True (y8 ?_) (fun _=>?_)
   ·refine w9 ⟨⟨24,[(0,.ref 0 0),(3,.msl 3 1 0 (x9 X).length),(4,i64 j),(5,bA t)]⟩,Y0 G++[.row y7 1 (x9 X)]⟩ True (z8 hT ?_) (fun _=>?_)
    ·refine Q1 (Z7 [0,1,2] rd rfl rfl rfl) ?_
     exact⟨z6 [0,1,2,3] [0,3,4,5] rfl,trivial⟩
    refine X5 (fun k=>Nat.beq 2 k) hT ?_
    refine⟨⟨rfl,rfl⟩,?_⟩
    refine⟨rfl,⟨?_,?_⟩,?_⟩
    ·show ((x9 X).length+1)*24≤_
     omega
    ·show (x9 X).length+1≤_
     omega
    rw[w5i]
    exact⟨z6 [0,1,2,4] [0,3,4] rfl,trivial⟩
   ·refine z8 hT ?_
    refine⟨n - 1,by omega,_,z6 [0,1,2,3] [0,3,4] rfl,k+1,IntKind.i64.wrap (j+1),X++[t],G,by omega,?_,e1.symm,rfl⟩
    rw[Q0 _ (by omega) (by omega),hj];rfl
  ·have h:=k0y (show decide (j<(E.cells.length:Int))=false from h)
   rw[show k=N by omega]at hX
   refine Q6 ?_
   exact⟨_,z6 [0,1,2,3] [3] rfl,X,E,hX,rfl⟩
 rintro _ ⟨X,E,hX,rfl⟩
 refine Z2 (z5r 3 3 1 _ rfl rfl rfl rfl) ?_
 refine z7 hT ?_
 refine u0 ?_
 exact x7 [0,1,2] ⟨(X,E),hX,rfl,rfl⟩ rfl
def Dev.spoil (D:Dev)(l:List Flt):Nat→Dev
 |0=>D
 |k+1=>match l[k]? with
  |some f=>match decide (f.kind<4) with
   |true=>((D.spoil l k).fault f).2
   |false=>D.spoil l k
  |none=>D.spoil l k
theorem w1f {D:Dev}{b:Nat}(h:D.Ok b)(l:List Flt):∀ k,(D.spoil l k).Ok (b+k)
 |0=>h
 |k+1=>by
  have ih:=w1f h l k
  unfold Dev.spoil
  split
  ·split
   ·exact ih.fault _
   ·exact ih.mono (by omega)
  ·exact ih.mono (by omega)
theorem x6f (D:Dev)(b:Nat)(hD:D.Ok b)(l:List Flt)(hl:l.length≤1000)(hb:b+1000≤1000000) :
 AFm k0q 3 y6m [.ref 0 0,.p (.sl 9 (flX l))] (Y0 D) (Q8 (.tup []) (Y0 (D.spoil l l.length))):=by
 have k0:=w1f hD l
 have ks:∀ k,D.spoil l (k+1)=match l[k]? with
  |some f=>match decide (f.kind<4) with
   |true=>((D.spoil l k).fault f).2
   |false=>D.spoil l k
  |none=>D.spoil l k:=fun k=>rfl
 have kz:D.spoil l 0=D:=rfl
 refine AFm.mono (R:=fun r H'=>∃ z,z=D.spoil l l.length∧r=.tup []∧H'=Y0 z) ?_ (by rintro r H' ⟨z,rfl,rfl,rfl⟩;exact⟨rfl,rfl⟩)
 generalize D.spoil l=F at k0 ks kz ⊢
 have hfl:=x6d l
 refine Z5 3 hT Tryz.func17 rfl rfl Tryz.ntmps17 rfl rfl ?_
 refine z7 hT ?_
 refine y8 ?_
 refine Q2 (fun n st=>∃ (k:Nat) (j:Int) (E:Dev),n+k=l.length∧j=k∧E=F k∧st=⟨⟨23,[(0,.ref 0 0),(1,.p (.sl 9 (flX l))),(4,i64 j)]⟩,Y0 E⟩) l.length ⟨⟨23,_⟩,_⟩ (z6 [0,1,2] [0,1,4] rfl) ⟨0,0,D,rfl,rfl,kz.symm,rfl⟩ ?_
 rintro n st ⟨k,j,E,hnk,hj,hX,rfl⟩
 refine u6 (z7 hT ?_)
 refine y6 (u7 (fun h=>?_) (fun h=>?_))
 ·have h:=k0z (show decide (j<(((flX l).length:Nat):Int))=true from h)
  have hk:k<l.length:=by omega
  have hx:=k0w hk
  generalize l[k]=f at hx
  have hkk:=ks k
  rw[hx,← hX]at hkk
  have hkk:F (k+1)=match decide (f.kind<4) with|true=>(E.fault f).2|false=>E:=hkk
  have hxp:(flX l)[j.toNat]?=some f.pv:=by rw[hj,k0u];exact x6e hx
  have wF:=y7q E f (b+k) (by rw[hX];exact k0 k) (by omega)
  generalize E.fault f=Y at wF hkk
  obtain⟨e,G⟩:=Y
  refine x6 ?_
  refine Q3 (fun st=>∃ G,G=F (k+1)∧st=⟨⟨23,[(0,.ref 0 0),(1,.p (.sl 9 (flX l))),(4,i64 j)]⟩,Y0 G⟩) (y8 (z7 hT ?_)) ?_
  ·refine⟨by omega,Z1 hxp ?_⟩
   refine y6 (u7 (fun h2=>?_) (fun h2=>?_))
   ·have h2:decide (f.kind<4)=true:=h2
    rw[h2]at hkk
    refine z8 hT ?_
    refine⟨by omega,Z1 hxp ?_⟩
    refine Q1 (Z7 [0,1,2] wF rfl rfl rfl) ?_
    exact⟨_,z6 [0,1,2] [0,1,4] rfl,G,hkk.symm,rfl⟩
   ·have h2:decide (f.kind<4)=false:=h2
    rw[h2]at hkk
    exact x6 ⟨_,z6 [0,1,2] [0,1,4] rfl,E,hkk.symm,rfl⟩
  ·rintro _ ⟨G,hG,rfl⟩
   refine z8 hT ?_
   exact⟨n - 1,by omega,_,z6 [0,1,2] [0,1,4] rfl,k+1,IntKind.i64.wrap (j+1),G,by omega,by rw[Q0 _ (by omega) (by omega)];omega,hG,rfl⟩
 ·have h:=k0y (show decide (j<(((flX l).length:Nat):Int))=false from h)
  rw[show k=l.length by omega]at hX
  refine Q6 ?_
  exact x7 [0,1,2] ⟨E,hX,rfl,rfl⟩ rfl
theorem w5j (l r:List Int)(hl:l.length≤1000000):AF k0q x4s [.p (.sl 1 (Y7 l)),.p (.sl 1 (Y7 r))] [] (Q8 (bl (decide (l=r))) []):=by
 have hll:=V2 l
 have hrl:=V2 r
 refine AF.mono (R:=fun v H'=>∃ z,z=decide (l=r)∧v=bl z∧H'=[]) ?_ (by rintro v H' ⟨z,rfl,rfl,rfl⟩;exact⟨rfl,rfl⟩)
 refine Q7 hT Tryz.func25 rfl rfl Tryz.ntmps25 rfl ?_
 refine z7 hT ?_
 refine u6 (z7 hT ?_)
 refine y6 (u7 (fun h=>?_) (fun h=>?_))
 ·have h:((((Y7 l).length:Nat):Int) != (((Y7 r).length:Nat):Int))=true:=h
  rw[bne_iff_ne,hll,hrl]at h
  refine z7 hT ?_
  refine u0 ?_
  exact x7 [] ⟨false,(k1s (fun e=>h (by rw[e]))).symm,rfl,rfl⟩ rfl
 ·have h:((((Y7 l).length:Nat):Int) != (((Y7 r).length:Nat):Int))=false:=h
  have h:(((Y7 l).length:Nat):Int)=(((Y7 r).length:Nat):Int):=by simpa using h
  have hlr:l.length=r.length:=by omega
  refine x6 ?_
  refine Q3 (fun st=>l=r∧st=⟨⟨26,[]⟩,[]⟩) (z7 hT ?_) ?_
  ·refine y8 ?_
   refine Q2 (fun n st=>∃ (k:Nat) (j:Int),n+k=l.length∧j=k∧l.take k=r.take k∧st=⟨⟨26,[(0,.p (.sl 1 (Y7 l))),(1,.p (.sl 1 (Y7 r))),(5,i64 j)]⟩,[]⟩) l.length ⟨⟨26,_⟩,_⟩ (z6 [] [0,1,5] rfl) ⟨0,0,rfl,rfl,rfl,rfl⟩ ?_
   rintro n st ⟨k,j,hnk,hj,hX,rfl⟩
   refine u6 (z7 hT ?_)
   refine y6 (u7 (fun h=>?_) (fun h=>?_))
   ·have h:=k0z (show decide (j<(((Y7 l).length:Nat):Int))=true from h)
    have hx:=k0w (show k<l.length by omega)
    have hy:=k0w (show k<r.length by omega)
    generalize l[k]=a at hx
    generalize r[k]=c at hy
    have hxp:(Y7 l)[j.toNat]?=some [.raw (.int .i64 a)]:=by rw[hj,k0u];exact q0n hx
    have hyp:(Y7 r)[j.toNat]?=some [.raw (.int .i64 c)]:=by rw[hj,k0u];exact q0n hy
    refine x6 ?_
    refine w9 ⟨⟨26,[(0,.p (.sl 1 (Y7 l))),(1,.p (.sl 1 (Y7 r))),(5,i64 j)]⟩,[]⟩ (a=c) (y8 (u6 (Q9 [] [] hT u5 (by rfl) ?_))) (fun hac=>?_)
    ·refine⟨by omega,Z1 hxp ?_⟩
     refine⟨by omega,Z1 hyp ?_⟩
     refine y6 (u7 (fun h2=>?_) (fun h2=>?_))
     ·have h2:(a != c)=true:=h2
      rw[bne_iff_ne]at h2
      refine z7 hT ?_
      refine u0 ?_
      exact x7 [] ⟨false,(k1s (fun e=>h2 (by rw[e,hy]at hx;exact(k0x hx).symm))).symm,rfl,rfl⟩ rfl
     ·have h2:(a != c)=false:=h2
      exact x6 ⟨z6 [] [0,1,5] rfl,by simpa using h2⟩
    ·refine z8 hT ?_
     refine⟨n - 1,by omega,_,z6 [] [0,1,5] rfl,k+1,IntKind.i64.wrap (j+1),by omega,by rw[Q0 _ (by omega) (by omega)];omega,?_,rfl⟩
     rw[k2t,k2t,hx,hy,hX,hac]
   ·have h:=k0y (show decide (j<(((Y7 l).length:Nat):Int))=false from h)
    rw[show k=l.length by omega,List.take_length,hlr,List.take_length]at hX
    refine Q6 ?_
    exact⟨_,z6 [] [] rfl,hX,rfl⟩
  rintro _ ⟨hX,rfl⟩
  refine z7 hT ?_
  refine u0 ?_
  exact x7 [] ⟨true,(k1t hX).symm,rfl,rfl⟩ rfl
def z6r (w n a:Nat):Nat:=if a<4 then 0 else if a<4+w then a - 3 else if a<4+2*w then a - 3 - w else 1+w+(a - 4 - 2*w) / n
def Z8 (w n i:Nat):List Nat:=if i=0 then List.range 4 else if i≤w then [3+i,3+w+i] else (List.range n).map fun j=>4+2*w+(i - 1 - w)*n+j
theorem v8a {w n i:Nat}:(Z8 w n i).Pairwise (· < ·):=by
 unfold Z8
 split
 ·exact List.pairwise_lt_range
 ·rename_i h
  split
  ·refine List.pairwise_cons.mpr ⟨fun a ha=>?_,List.pairwise_singleton _ _⟩
   rw[List.mem_singleton]at ha
   omega
  ·rw[List.pairwise_map]
   exact List.pairwise_lt_range.imp fun h=>by omega
theorem x2x {w n s i a:Nat}(hn:0<n)(hi:i<1+w+s):a∈Z8 w n i↔a<4+2*w+s*n∧z6r w n a=i:=by
 have hs:∀ t,t<s→t*n+n≤s*n:=fun t ht=>by
  have:=k2v n (show t+1≤s from ht)
  rwa [Nat.succ_mul]at this
 unfold Z8 z6r
 generalize hq:(a - 4 - 2*w) / n=q
 split
 ·rename_i h0
  rw[List.mem_range]
  refine⟨fun h=>⟨by omega,by rw[if_pos h];exact h0.symm⟩,fun⟨_,h⟩=>?_⟩
  by_cases h4:a<4
  ·exact h4
  ·rw[if_neg h4]at h
   split at h
   ·omega
   ·split at h
    ·omega
    ·omega
 ·rename_i h0
  split
  ·rename_i hw
   rw[List.mem_cons,List.mem_singleton]
   constructor
   ·rintro(h|h)
    ·refine⟨by omega,?_⟩
     rw[if_neg (by omega),if_pos (by omega)];omega
    ·refine⟨by omega,?_⟩
     rw[if_neg (by omega),if_neg (by omega),if_pos (by omega)];omega
   ·rintro⟨_,h⟩
    split at h
    ·omega
    ·split at h
     ·omega
     ·split at h
      ·omega
      ·omega
  ·rename_i hw
   rw[List.mem_map]
   have ht:=hs (i - 1 - w) (by omega)
   obtain⟨t,et⟩:∃ t,t=i - 1 - w:=⟨_,rfl⟩
   rw[← et]at ht ⊢
   constructor
   ·rintro⟨j,hj,hja⟩
    rw[List.mem_range]at hj
    refine⟨by omega,?_⟩
    rw[if_neg (by omega),if_neg (by omega),if_neg (by omega)]
    have e:q=t:=by
     rw[← hq]
     refine Nat.div_eq_of_lt_le (by omega) ?_
     rw[Nat.add_mul t 1 n];omega
    omega
   ·rintro⟨hl,h⟩
    split at h
    ·omega
    ·split at h
     ·omega
     ·split at h
      ·omega
      ·have e:=Nat.div_add_mod (a - 4 - 2*w) n
       have hm:=Nat.mod_lt (a - 4 - 2*w) hn
       rw[hq,show q=t by omega,Nat.mul_comm]at e
       exact⟨(a - 4 - 2*w) % n,List.mem_range.mpr hm,by omega⟩
theorem w7z {w n s a:Nat}(_hn:0<n)(ha:a<4+2*w+s*n):z6r w n a<1+w+s:=by
 unfold z6r
 split
 ·omega
 ·split
  ·omega
  ·split
   ·omega
   ·have:(a - 4 - 2*w) / n<s:=Nat.div_lt_of_lt_mul (show a - 4 - 2*w<n*s by rw[Nat.mul_comm n s];omega)
    omega
theorem v1y {w a n:Nat}(ha:a<4+2*w):(z8h w 2).getD a 0=(z6r w n a:Int):=by
 have h0:∀ a,a<4→(z8h w 0).getD a 0=0:=fun a ha=>by
  rcases (show a=0∨a=1∨a=2∨a=3 by omega) with rfl|rfl|rfl|rfl <;> rfl
 have l0:(z8h w 0).length=4:=rfl
 have l1:=y0m w 1
 have hm:∀ j,j<w→(((List.range w).map fun(i:Nat)=>1+(i:Int))[j]?).getD 0=1+(j:Int):=fun j hj=>by
  rw[k1z,k2s hj];rfl
 unfold z6r
 show ((z8h w 1)++_).getD a 0=_
 rw[k0v]
 by_cases h:a<4+w
 ·rw[k0s (by omega)]
  show (((z8h w 0)++_)[a]?).getD 0=_
  by_cases h4:a<4
  ·rw[k0s (by omega),if_pos h4,← k0v,h0 a h4];rfl
  ·rw[k1q (by omega),l0,hm _ (by omega),if_neg h4,if_pos h];omega
 ·rw[k1q (by omega),l1,hm _ (by omega),if_neg (by omega),if_neg h,if_pos ha];omega
theorem w1g {w n:Nat}(hn:0<n):∀ (s a:Nat),a<4+2*w+s*n→(z8i w n s).getD a 0=(z6r w n a:Int)
 |0,a,ha=>v1y (by omega)
 |s+1,a,ha=>by
  have hl:=z0x w n s
  rw[Nat.add_mul s 1 n,Nat.one_mul]at ha
  show ((z8i w n s)++_).getD a 0=_
  rw[k0v]
  by_cases h:a<4+2*w+s*n
  ·rw[k0s (by omega),← k0v]
   exact w1g hn s a h
  ·rw[k1q (by omega),hl,List.getElem?_replicate,if_pos (by omega)]
   unfold z6r
   rw[if_neg (by omega),if_neg (by omega),if_neg (by omega)]
   have e:(a - 4 - 2*w) / n=s:=by
    refine Nat.div_eq_of_lt_le (by omega) ?_
    rw[Nat.add_mul s 1 n];omega
   rw[e]
   show 1+(w:Int)+s=_
   omega
structure GeoN (g:GeoV) (w n s:Nat):Prop where
 may:g.may=true
 hw:g.w=w
 hn:g.k+g.m=n
 hs:g.s=s
theorem u5v {g:GeoV}(h:g.may=true):GeoN g g.w.toNat (g.k+g.m).toNat g.s.toNat:=by
 obtain⟨h1,h2,h3,h4,h5,h6,h7,h8⟩:=V6 (V4 h)
 exact⟨h,by omega,by omega,by omega⟩
variable {g:GeoV} {w n s:Nat}
theorem GeoN.le (h:GeoN g w n s):8≤w∧w≤512∧2≤n∧n≤24∧1≤s∧s≤32∧g.secs=4+2*w+2*s*n∧g.secs≤4096:=by
 obtain⟨h1,h2,h3,h4,h5,h6,h7,h8⟩:=V6 (V4 h.may)
 obtain⟨q1,q2,_⟩:=q9s h.may
 have:=h.hw;have:=h.hn;have:=h.hs
 rw[h.hn,h.hs,show 2*(s:Int)*(n:Int)=((2*s*n:Nat):Int) by simp]at q1
 omega
theorem GeoN.groups (h:GeoN g w n s):g.groups=((1+w+2*s:Nat):Int):=by
 unfold GeoV.groups
 rw[h.may,h.hw,h.hs]
 show 1+(w:Int)+2*s=_
 omega
theorem GeoN.sectors (h:GeoN g w n s):g.sectors=(g.secs:Int):=by
 obtain⟨q1,q2,_⟩:=q9s h.may
 unfold GeoV.sectors
 rw[h.may,q1]
theorem GeoN.memb (h:GeoN g w n s)(i:Nat):q1z g i=(Z8 w n i).map fun a:Nat=>(a:Int):=by
 unfold q1z Z8
 by_cases h0:i=0
 ·rw[k1t (show (i:Int)=0 by omega),if_pos h0]
 ·rw[k1s (show ¬ (i:Int)=0 by omega),if_neg h0]
  by_cases hw:i≤w
  ·rw[k1t (show (i:Int)≤g.w by have:=h.hw;omega),if_pos hw,h.hw]
   show [4+((0:Nat):Int)*w+i - 1,4+((1:Nat):Int)*w+i - 1]=[((3+i:Nat):Int),((3+w+i:Nat):Int)]
   rw[show 4+((0:Nat):Int)*w+i - 1=((3+i:Nat):Int) by omega,show 4+((1:Nat):Int)*w+i - 1=((3+w+i:Nat):Int) by omega]
  ·rw[k1s (show ¬ (i:Int)≤g.w by have:=h.hw;omega),if_neg hw,h.hw,h.hn,k0u,List.map_map]
   show List.map _ _=_
   refine List.map_congr_left fun j _=>?_
   show 4+2*(w:Int)+((i:Int) - 1 - w)*n+j=((4+2*w+(i - 1 - w)*n+j:Nat):Int)
   rw[show (i:Int) - 1 - w=((i - 1 - w:Nat):Int) by omega]
   simp only[Int.natCast_add,Int.natCast_mul]
   rfl
theorem GeoN.own (h:GeoN g w n s):g.own.length=g.secs∧∀ a,a<g.secs→g.own.getD a 0=(z6r w n a:Int):=by
 obtain⟨h1,h2,h3,h4,h5,h6,h7,h8⟩:=h.le
 have e:g.own=z8i w n (2*s):=by
  unfold GeoV.own
  rw[h.hw,h.hn,h.hs,k0u,k0u,k0u]
 rw[e,z0x,h7]
 exact⟨rfl,fun a ha=>w1g (by omega) _ a ha⟩
theorem z6g {w n i:Nat}:(Z8 w n i).length=if i=0 then 4 else if i≤w then 2 else n:=by
 unfold Z8
 split
 ·rfl
 ·split
  ·rfl
  ·rw[k1x,k3q]
end Go.Proofs.YtkjklhcfgbaceaaGreat.AL
namespace Go.Proofs.YtkjklhcfgbaceaaGreat.AL
open Go Go.Proofs
def q1e (g:GeoV)(l:List Flt):Nat→Int→Int
 |0,_=>0
 |k+1,i=>q1e g l k i+(match l[k]? with|some f=>if (J4 g f.at_).1=i then 1 else 0|none=>0)
theorem w1h (g:GeoV)(l:List Flt):∀ k i,0≤q1e g l k i∧q1e g l k i≤k
 |0,_=>⟨Int.le_refl _,Int.le_refl _⟩
 |k+1,i=>by
  have:=w1h g l k i
  unfold q1e
  split
  ·split <;> omega
  ·omega
structure OkF (g:GeoV) (l:List Flt) (k:Nat) (f:Flt):Prop where
 kind:1≤f.kind∧f.kind≤3
 off:0≤f.off∧f.off≤252
 there:(J4 g f.at_).2.2=0
 once:∀ j y,j<k→l[j]?=some y→y.at_≠f.at_
 bears:q1e g l (k+1) (J4 g f.at_).1≤g.bears (J4 g f.at_).1
def q4i (g:GeoV)(l:List Flt)(n:Nat):Prop:=∀ k f,k<n→l[k]?=some f→OkF g l k f
def z3d (g:GeoV)(l:List Flt)(k:Nat):List Int:=(List.range g.groups.toNat).map fun i:Nat=>q1e g l k i
theorem z1c (g:GeoV)(l:List Flt)(k:Nat):(z3d g l k).length=g.groups.toNat:=by unfold z3d;rw[k1x,k3q]
theorem z1d {g:GeoV}{l:List Flt}{k i:Nat}(h:i<g.groups.toNat):(z3d g l k)[i]?=some (q1e g l k i):=by
 unfold z3d;rw[k1z,k2s h];rfl
theorem v1z {g:GeoV}{l:List Flt}{k:Nat}{f:Flt}(hf:l[k]?=some f){i:Nat}(hi:i<g.groups.toNat)(hw:(J4 g f.at_).1=i):(Y7 (z3d g l k)).set i [.raw (.int .i64 (q1e g l (k+1) i))]=Y7 (z3d g l (k+1)):=by
 refine List.ext_getElem? fun j=>?_
 rw[List.getElem?_set,V2,z1c]
 by_cases e:i=j
 ·subst e
  rw[if_pos rfl,if_pos hi]
  exact(q0n (z1d hi)).symm
 ·rw[if_neg e]
  by_cases hj:j<g.groups.toNat
  ·rw[q0n (z1d hj),q0n (z1d hj)]
   have:q1e g l (k+1) j=q1e g l k j:=by
    show q1e g l k j+(match l[k]? with|some f=>if (J4 g f.at_).1=j then 1 else 0|none=>0)=_
    rw[hf]
    show _+(if (J4 g f.at_).1=j then 1 else 0)=_
    rw[hw,if_neg (by omega)];omega
   rw[this]
  ·rw[List.getElem?_eq_none (by rw[V2,z1c];omega),List.getElem?_eq_none (by rw[V2,z1c];omega)]
theorem w5k (g:GeoV)(l:List Flt):Y7 (z3d g l 0)=List.replicate g.groups.toNat [.raw (.int .i64 0)]:=by
 refine List.ext_getElem? fun j=>?_
 rw[List.getElem?_replicate]
 by_cases hj:j<g.groups.toNat
 ·rw[q0n (z1d hj),if_pos hj];rfl
 ·rw[List.getElem?_eq_none (by rw[V2,z1c];omega),if_neg hj]
theorem x6g (g:GeoV)(hg:g.may=true)(l:List Flt)(hl:l.length≤1000) :
 ∃ z:Int,((z=0∧q4i g l l.length)∨(z=1∧¬ q4i g l l.length))∧AF k0q y6n [g.av,.p (.sl 9 (flX l))] [] (Q8 (i64 z) []):=by
 obtain⟨z,hz⟩:∃ z:Int,(z=0∧q4i g l l.length)∨(z=1∧¬ q4i g l l.length):=by
  by_cases h:q4i g l l.length
  ·exact⟨0,.inl ⟨rfl,h⟩⟩
  ·exact⟨1,.inr ⟨rfl,h⟩⟩
 refine⟨z,hz,?_⟩
 have hno:∀ k f,k<l.length→l[k]?=some f→¬ OkF g l k f→z=1:=fun k f hk hf hn=>by
  rcases hz with ⟨_,h⟩|⟨h,_⟩
  ·exact absurd (h k f hk hf) hn
  ·exact h
 have hyes:q4i g l l.length→z=0:=fun h=>by
  rcases hz with ⟨h,_⟩|⟨_,h2⟩
  ·exact h
  ·exact absurd h h2
 clear hz
 have wG:=z2n g
 have hN:=u5v hg
 obtain⟨q1,q2,q3,q4,q5,q6,q7,q8⟩:=hN.le
 have hgr:=hN.groups
 have hG:∃ G:Nat,g.groups=G∧G≤1000:=⟨_,hgr,by omega⟩
 obtain⟨G,hG1,hG2⟩:=hG
 have hGt:g.groups.toNat=G:=by omega
 have hfl:=x6d l
 have hwi:∀ a:Int,(J4 g a).2.2=0→0≤(J4 g a).1∧(J4 g a).1<G:=fun a ha=>by
  unfold J4 at ha ⊢
  split at ha
  ·exact absurd ha (by decide)
  ·rename_i hc
   rw[Bool.or_eq_false_iff,decide_eq_false_iff_not,decide_eq_false_iff_not]at hc
   obtain⟨o1,o2⟩:=hN.own
   have:=o2 a.toNat (by omega)
   have hl:=w7z (w:=g.w.toNat) (n:=(g.k+g.m).toNat) (s:=2*g.s.toNat) (a:=a.toNat) (by omega) (by omega)
   show 0≤g.own.getD a.toNat 0∧g.own.getD a.toNat 0<(G:Int)
   omega
 have hz0:=w5k g l
 have hll:=z1c g l
 rw[hGt]at hz0
 rw[hG1]at wG
 refine Q7 hT Tryz.func27 rfl rfl Tryz.ntmps27 rfl ?_
 refine z7 hT ?_
 refine Z2 (Z3 0 g.pv rfl rfl) ?_
 refine Q3 (fun st=>∃ X,X=Y7 (z3d g l 0)∧st=⟨⟨93,[(1,.p (.sl 9 (flX l))),(2,.p (.box g.pv)),(5,.msl 0 1 0 G)]⟩,[.row W7 1 X]⟩) (z8 hT ?_) ?_
 ·refine Q1 (Q4 wG _ rfl rfl) ?_
  refine⟨⟨rfl,by omega,⟨by show (G:Int)*8≤_;omega,by omega⟩⟩,?_⟩
  exact⟨_,z6 [1] [1,2,5] rfl,_,(by rw[k0u];exact hz0.symm),rfl⟩
 rintro _ ⟨X0,hX0,rfl⟩
 refine Q3 (fun st=>q4i g l l.length∧st=⟨⟨93,[]⟩,[]⟩) (z7 hT ?_) ?_
 ·refine y8 ?_
  refine Q2 (fun n st=>∃ (k:Nat) (j:Int) (X:List (List PV)),n+k=l.length∧j=k∧X=Y7 (z3d g l k)∧q4i g l k∧st=⟨⟨93,[(1,.p (.sl 9 (flX l))),(2,.p (.box g.pv)),(5,.msl 0 1 0 G),(6,i64 j)]⟩,[.row W7 1 X]⟩) l.length ⟨⟨93,_⟩,_⟩ (z6 [0] [1,2,5,6] rfl) ⟨0,0,X0,rfl,rfl,hX0,fun k f hk _=>absurd hk (Nat.not_lt_zero _),rfl⟩ ?_
  rintro n st ⟨k,j,X,hnk,hj,hX,hW,rfl⟩
  refine u6 (z7 hT ?_)
  refine y6 (u7 (fun h=>?_) (fun h=>?_))
  ·have h:=k0z (show decide (j<(((flX l).length:Nat):Int))=true from h)
   have hk:k<l.length:=by omega
   have hx:=k0w hk
   generalize l[k]=f at hx
   have hxp:(flX l)[j.toNat]?=some f.pv:=by rw[hj,k0u];exact x6e hx
   have hno:=hno k f hk hx
   have wW:=w1e g f.at_ hg
   have hwi:=hwi f.at_
   refine x6 ?_
   refine Q3 (fun st=>∃ X',X'=Y7 (z3d g l (k+1))∧OkF g l k f∧st=⟨⟨93,[(1,.p (.sl 9 (flX l))),(2,.p (.box g.pv)),(5,.msl 0 1 0 G),(6,i64 j)]⟩,[.row W7 1 X']⟩) (y8 ?_) ?_
   ·refine w9 ⟨⟨93,[(1,.p (.sl 9 (flX l))),(2,.p (.box g.pv)),(5,.msl 0 1 0 G),(6,i64 j)]⟩,[.row W7 1 X]⟩ ((1≤f.kind∧f.kind≤3)∧0≤f.off∧f.off≤252) (z7 hT ?_) (fun hA=>?_)
    ·refine⟨by omega,Z1 hxp ?_⟩
     refine u7 (fun c1=>?_) (fun c1=>?_)
     ·have c1:=k0z (show decide (f.kind<1)=true from c1)
      refine y6 ?_
      refine z7 hT ?_
      refine u0 ?_
      exact x7 [] ⟨by rw[hno fun o=>by have:=o.kind;omega];rfl,rfl⟩ rfl
     have c1:=k0y (show decide (f.kind<1)=false from c1)
     refine⟨by omega,Z1 hxp ?_⟩
     refine u7 (fun c2=>?_) (fun c2=>?_)
     ·have c2:=k0z (show decide (f.kind > 3)=true from c2)
      refine y6 ?_
      refine z7 hT ?_
      refine u0 ?_
      exact x7 [] ⟨by rw[hno fun o=>by have:=o.kind;omega];rfl,rfl⟩ rfl
     have c2:=k0y (show decide (f.kind > 3)=false from c2)
     refine⟨by omega,Z1 hxp ?_⟩
     refine u7 (fun c3=>?_) (fun c3=>?_)
     ·have c3:=k0z (show decide (f.off<0)=true from c3)
      refine y6 ?_
      refine z7 hT ?_
      refine u0 ?_
      exact x7 [] ⟨by rw[hno fun o=>by have:=o.off;omega];rfl,rfl⟩ rfl
     have c3:=k0y (show decide (f.off<0)=false from c3)
     refine⟨by omega,Z1 hxp ?_⟩
     refine y6 (u7 (fun c4=>?_) (fun c4=>?_))
     ·have c4:=k0z (show decide (f.off > 252)=true from c4)
      refine z7 hT ?_
      refine u0 ?_
      exact x7 [] ⟨by rw[hno fun o=>by have:=o.off;omega];rfl,rfl⟩ rfl
     have c4:=k0y (show decide (f.off > 252)=false from c4)
     exact x6 ⟨z6 [0] [1,2,5,6] rfl,⟨by omega,by omega⟩,by omega,by omega⟩
    ·generalize hY:J4 g f.at_=Y at wW hwi
     obtain⟨n1,n2,n3⟩:=Y
     have wW:AF k0q z6z [g.av,i64 f.at_] [] (Q8 (.tup [i64 n1,i64 n2,i64 n3]) []):=wW
     have hwi:n3=0→0≤n1∧n1<G:=hwi
     refine u6 (Q9 [] [] hT u5 (by rfl) ?_)
     refine⟨by omega,Z1 hxp ?_⟩
     refine⟨_,Q4 wW _ rfl rfl,?_⟩
     refine w9 ⟨⟨93,[(1,.p (.sl 9 (flX l))),(2,.p (.box g.pv)),(5,.msl 0 1 0 G),(6,i64 j),(7,i64 n1)]⟩,[.row W7 1 X]⟩ (n3=0) (z7 hT ?_) (fun hB=>?_)
     ·refine y6 (u7 (fun c1=>?_) (fun c1=>?_))
      ·have c1:(n3 != 0)=true:=c1
       rw[bne_iff_ne]at c1
       refine z7 hT ?_
       refine u0 ?_
       exact x7 [] ⟨by rw[hno fun o=>by have:=o.there;rw[hY]at this;exact c1 this];rfl,rfl⟩ rfl
      ·have c1:(n3 != 0)=false:=c1
       exact x6 ⟨z6 [0] [1,2,5,6,7] rfl,by simpa using c1⟩
     obtain⟨m0,m1⟩:=hwi hB
     refine w9 ⟨⟨93,[(1,.p (.sl 9 (flX l))),(2,.p (.box g.pv)),(5,.msl 0 1 0 G),(6,i64 j),(7,i64 n1)]⟩,[.row W7 1 X]⟩ (∀ i y,i<k→l[i]?=some y→y.at_≠f.at_) (z7 hT ?_) (fun hCc=>?_)
     ·refine y8 ?_
      refine Q2 (fun c st=>∃ (i:Nat) (ji:Int),c+i=k∧ji=i∧(∀ q y,q<i→l[q]?=some y→y.at_≠f.at_)∧st=⟨⟨93,[(1,.p (.sl 9 (flX l))),(2,.p (.box g.pv)),(5,.msl 0 1 0 G),(6,i64 j),(7,i64 n1),(10,i64 ji)]⟩,[.row W7 1 X]⟩) k ⟨⟨93,_⟩,_⟩ (z6 [0] [1,2,5,6,7,10] rfl) ⟨0,0,by omega,rfl,fun q y hq _=>absurd hq (Nat.not_lt_zero _),rfl⟩ ?_
      rintro c st ⟨i,ji,hci,hji,hI,rfl⟩
      refine u6 (z7 hT ?_)
      refine y6 (u7 (fun h2=>?_) (fun h2=>?_))
      ·have h2:=k0z (show decide (ji<j)=true from h2)
       have hik:i<k:=by omega
       have hy:=k0w (show i<l.length by omega)
       generalize l[i]=y at hy
       have hyp:(flX l)[ji.toNat]?=some y.pv:=by rw[hji,k0u];exact x6e hy
       refine x6 ?_
       refine w9 ⟨⟨93,[(1,.p (.sl 9 (flX l))),(2,.p (.box g.pv)),(5,.msl 0 1 0 G),(6,i64 j),(7,i64 n1),(10,i64 ji)]⟩,[.row W7 1 X]⟩ (y.at_≠f.at_) (y8 (u6 (Q9 [] [] hT u5 (by rfl) ?_))) (fun hyf=>?_)
       ·refine⟨by omega,Z1 hyp ?_⟩
        refine⟨by omega,Z1 hxp ?_⟩
        refine y6 (u7 (fun h3=>?_) (fun h3=>?_))
        ·have h3:(y.at_==f.at_)=true:=h3
         rw[beq_iff_eq]at h3
         refine z7 hT ?_
         refine u0 ?_
         exact x7 [] ⟨by rw[hno fun o=>o.once i y hik hy h3];rfl,rfl⟩ rfl
        ·have h3:(y.at_==f.at_)=false:=h3
         rw[beq_eq_false_iff_ne]at h3
         exact x6 ⟨z6 [0] [1,2,5,6,7,10] rfl,h3⟩
       ·refine z8 hT ?_
        refine⟨c - 1,by omega,_,z6 [0] [1,2,5,6,7,10] rfl,i+1,IntKind.i64.wrap (ji+1),by omega,by rw[Q0 _ (by omega) (by omega)];omega,fun q z hq hz=>?_,rfl⟩
        by_cases e:q=i
        ·subst e
         rw[hy]at hz
         obtain rfl:=k0x hz
         exact hyf
        ·exact hI q z (by omega) hz
      ·have h2:=k0y (show decide (ji<j)=false from h2)
       refine Q6 ?_
       exact⟨z6 [0] [1,2,5,6,7] rfl,fun q z hq hz=>hI q z (by omega) hz⟩
     have hnn:n1.toNat<g.groups.toNat:=by omega
     have hgx:X[0+n1.toNat]?=some [.raw (.int .i64 (q1e g l k n1))]:=by
      rw[hX,show 0+n1.toNat=n1.toNat by omega,q0n (z1d hnn),Int.toNat_of_nonneg m0]
     have hset:=v1z (g:=g) hx (i:=n1.toNat) hnn (by rw[hY];show n1=_;omega)
     rw[← hX,Int.toNat_of_nonneg m0]at hset
     have hle:=w1h g l k n1
     have hsu:q1e g l (k+1) n1=q1e g l k n1+1:=by
      show q1e g l k n1+(match l[k]? with|some f=>if (J4 g f.at_).1=n1 then 1 else 0|none=>0)=_
      rw[hx]
      show _+(if (J4 g f.at_).1=n1 then 1 else 0)=_
      rw[hY,if_pos rfl]
     have hwr:IntKind.i64.wrap (q1e g l k n1+1)=q1e g l (k+1) n1:=by rw[Q0 _ (by omega) (by omega),hsu]
     have wBe:=w1d g n1
     have hOk:¬ q1e g l (k+1) n1 > g.bears n1→OkF g l k f:=fun hb=>⟨hA.1,hA.2,by rw[hY];exact hB,hCc,by rw[hY];show q1e g l (k+1) n1≤g.bears n1;omega⟩
     have hno2:q1e g l (k+1) n1 > g.bears n1→z=1:=fun hb=>hno fun o=>by
      have:=o.bears
      rw[hY]at this
      have:q1e g l (k+1) n1≤g.bears n1:=this
      omega
     generalize g.bears n1=bb at wBe hOk hno2
     generalize q1e g l (k+1) n1=nw at hset hwr hOk hno2
     generalize q1e g l k n1=ol at hgx hwr
     have hgs:(X.set (0+n1.toNat) [.raw (.int .i64 (IntKind.i64.wrap (ol+1)))])[0+n1.toNat]?=some [.raw (.int .i64 nw)]:=by
      rw[List.getElem?_set,if_pos rfl,if_pos (by rw[hX,V2,hll,hGt];omega),hwr]
     have hset:X.set (0+n1.toNat) [.raw (.int .i64 (IntKind.i64.wrap (ol+1)))]=Y7 (z3d g l (k+1)):=by rw[hwr,Nat.zero_add];exact hset
     refine Q3 (fun st=>∃ X',X'=Y7 (z3d g l (k+1))∧X'[0+n1.toNat]?=some [.raw (.int .i64 nw)]∧st=⟨⟨93,[(1,.p (.sl 9 (flX l))),(2,.p (.box g.pv)),(5,.msl 0 1 0 G),(6,i64 j),(7,i64 n1)]⟩,[.row W7 1 X']⟩) (z8 hT ?_) ?_
     ·refine⟨⟨by omega,by omega⟩,?_⟩
      refine Z1 hgx ?_
      refine⟨⟨by omega,by omega⟩,?_⟩
      refine Z1 hgx ?_
      exact⟨_,z6 [0] [1,2,5,6,7] rfl,_,hset,hgs,rfl⟩
     rintro _ ⟨X',hX',hgx',rfl⟩
     refine u6 (Q9 [] [] hT u5 (by rfl) ?_)
     refine⟨⟨by omega,by omega⟩,?_⟩
     refine Z1 hgx' ?_
     refine⟨_,Q4 wBe _ rfl rfl,?_⟩
     refine y6 (u7 (fun h2=>?_) (fun h2=>?_))
     ·have h2:=k0z (show decide (nw > bb)=true from h2)
      refine z7 hT ?_
      refine u0 ?_
      exact x7 [] ⟨by rw[hno2 h2];rfl,rfl⟩ rfl
     ·have h2:=k0y (show decide (nw > bb)=false from h2)
      exact x6 ⟨_,z6 [0] [1,2,5,6] rfl,X',hX',hOk h2,rfl⟩
   ·rintro _ ⟨X',hX',hO,rfl⟩
    refine z8 hT ?_
    refine⟨n - 1,by omega,_,z6 [0] [1,2,5,6] rfl,k+1,IntKind.i64.wrap (j+1),X',by omega,by rw[Q0 _ (by omega) (by omega)];omega,hX',fun i y hi hy=>?_,rfl⟩
    by_cases e:i=k
    ·subst e
     rw[hx]at hy
     obtain rfl:=k0x hy
     exact hO
    ·exact hW i y (by omega) hy
  ·have h:=k0y (show decide (j<(((flX l).length:Nat):Int))=false from h)
   rw[show k=l.length by omega]at hW
   refine Q6 ?_
   exact⟨_,z6 [] [] rfl,hW,rfl⟩
 rintro _ ⟨hW,rfl⟩
 refine z7 hT ?_
 refine u0 ?_
 exact x7 [] ⟨by rw[hyes hW];rfl,rfl⟩ rfl
end Go.Proofs.YtkjklhcfgbaceaaGreat.AL
namespace Go.Proofs.YtkjklhcfgbaceaaGreat.AL
open Go Go.Proofs Go.Proofs.YtkjklhcfgbaceaaGreat.AL.Crc
theorem w1i {D:Dev}{N b:Nat}(h:CleanP D N b){ps:List Put9}(hp:∀ p∈ps,x0q N p):∃ E,D.all9 ps=(0,E)∧CleanP E N (b+ps.length)∧E.cells=q0s ps D.cells:=by
 have key:∀ (ps:List Put9) {D:Dev} {b:Nat} (m:Int),(∀ p∈ps,x0q N p)→CleanP D N b→∃ E m',q3u z4x ps D m=(0,(E,m'))∧CleanP E N (b+ps.length)∧E.cells=q0s ps D.cells:=by
  intro ps
  induction ps with
  |nil=>intro D b m _ h;exact⟨D,m,rfl,h,rfl⟩
  |cons p r ih=>
   intro D b m hp h
   obtain⟨h0,h1,h2⟩:=hp p (by simp)
   have hk:((p.at_.toNat:Nat):Int)=p.at_:=by omega
   obtain⟨E,g1,g2,g3⟩:=y9d h (k:=p.at_.toNat) (by omega) h2
   rw[hk]at g1
   obtain⟨F,m',k1,k2,k3⟩:=ih (y2z 0 m) (fun q hq=>hp q (by simp[hq])) g2
   refine⟨F,m',?_,by rw[List.length_cons,show b+(r.length+1)=b+1+r.length by omega];exact k2,by rw[k3,g3];rfl⟩
   rw[q4s]
   have eg:z4x D m p.at_ p.s=(0,(E,y2z 0 m)):=by unfold z4x;rw[g1]
   rw[eg];exact k1
 obtain⟨E,m',h1,h2,h3⟩:=key ps 0 hp h
 exact⟨E,by unfold Dev.all9;rw[h1],h2,h3⟩
def w1j (vol:Int)(g:GeoV)(c0:Int)(P:List Pc):Nat→Int
 |0=>c0
 |i+1=>match P[i]? with|some p=>z6n vol g p|none=>c0
structure Chain (vol:Int) (g:GeoV) (epoch frm s0 c0:Int) (P:List Pc):Prop where
 may:∀ (i:Nat) (p:Pc),P[i]?=some p→p.may=true∧p.seq=s0+i∧p.epoch=epoch∧p.frm=frm∧p.chain=w1j vol g c0 P i
def q6j (g:GeoV)(s0:Int)(i:Nat):Int:=(s0+i).tmod g.w
theorem w8a {g:GeoV}(hg:g.may=true){s0:Int}(h0:0≤s0){i j:Nat}(hij:i<j)(hj:(j:Int)<i+g.w):q6j g s0 i≠q6j g s0 j:=by
 obtain⟨g1,g2,_⟩:=g.of_may hg
 unfold q6j
 rw[Int.tmod_eq_emod_of_nonneg (by omega),Int.tmod_eq_emod_of_nonneg (by omega)]
 intro e
 have h1:=Int.emod_emod_of_dvd (s0+(j:Int) - (s0+(i:Int))) (Int.dvd_refl g.w)
 have h2:(s0+(j:Int) - (s0+(i:Int))) % g.w=0:=by rw[Int.sub_emod,e,Int.sub_self,Int.zero_emod]
 rw[show s0+(j:Int) - (s0+(i:Int))=((j - i:Nat):Int) by omega]at h2
 rw[Int.emod_eq_of_lt (by omega) (by omega)]at h2
 omega
structure CellsP (vol:Int) (g:GeoV) (s0:Int) (P:List Pc) (cs:List Cell):Prop where
 used:∀ (i:Nat) (p:Pc),P[i]?=some p→∀ m:Int,(m=0∨m=1)→cs[(q0j g m (q6j g s0 i)).toNat]?=some (q2w (p.sector vol g m).1)
 free:∀ k m:Int,0≤k→k<g.w→(m=0∨m=1)→(∀ i:Nat,i<P.length→q6j g s0 i≠k)→cs[(q0j g m k).toNat]?=some (q2w (q0d vol (q0j g m k).toNat))
theorem y0t (g:GeoV)(k:Int):q0j g 0 k=4+k:=by unfold q0j;omega
theorem y0u (g:GeoV)(k:Int):q0j g 1 k=4+g.w+k:=by unfold q0j;omega
theorem u1c {g:GeoV}(hg:g.may=true){s0:Int}(h0:0≤s0)(i:Nat):0≤q6j g s0 i∧q6j g s0 i<g.w:=y0i hg (by omega)
theorem w1k {R:Rg}(hg:R.g.may=true){p:Pc}(hp:0≤p.seq){cs:List Cell}(hl:cs.length=R.g.secs){k m:Int}(k0:0≤k)(k1:k<R.g.w)(hm:m=0∨m=1) :
 (q0s (q4z R p) cs)[(q0j R.g m k).toNat]?=if k=p.seq.tmod R.g.w then some (q2w (p.sector R.vol R.g m).1) else cs[(q0j R.g m k).toNat]?:=by
 obtain⟨s0,s1⟩:=y0i hg hp
 obtain⟨_,_,q⟩:=q9s hg
 obtain⟨g1,_⟩:=R.g.of_may hg
 show ((cs.set (q0j R.g 0 (p.seq.tmod R.g.w)).toNat (q2w (p.sector R.vol R.g 0).1)).set (q0j R.g 1 (p.seq.tmod R.g.w)).toNat (q2w (p.sector R.vol R.g 1).1))[(q0j R.g m k).toNat]?=_
 generalize p.seq.tmod R.g.w=j at s0 s1
 rw[y0t,y0u,List.getElem?_set,List.getElem?_set,List.length_set]
 rcases hm with rfl|rfl
 ·rw[y0t,if_neg (by omega)]
  by_cases e:k=j
  ·rw[if_pos (by omega),if_pos (by omega),if_pos e]
  ·rw[if_neg (by omega),if_neg e]
 ·rw[y0u]
  by_cases e:k=j
  ·rw[if_pos (by omega),if_pos (by omega),if_pos e]
  ·rw[if_neg (by omega),if_neg (by omega),if_neg e]
theorem CellsP.snoc {R:Rg}(hg:R.g.may=true){s0:Int}{P:List Pc}{cs:List Cell}(h:CellsP R.vol R.g s0 P cs)(h0:0≤s0)(hl:cs.length=R.g.secs){p:Pc}(hs:p.seq=s0+P.length)(hP:(P.length:Int)<R.g.w):CellsP R.vol R.g s0 (P++[p]) (q0s (q4z R p) cs):=by
 have hk:p.seq.tmod R.g.w=q6j R.g s0 P.length:=by rw[hs];rfl
 refine⟨fun i q hq m hm=>?_,fun k m k0 k1 hm hn=>?_⟩
 ·obtain⟨i0,i1⟩:=u1c hg h0 i
  rw[w1k hg (by omega) hl i0 i1 hm,hk]
  rw[List.getElem?_append]at hq
  by_cases e:i<P.length
  ·rw[if_pos e]at hq
   rw[if_neg (w8a hg h0 e (by omega))]
   exact h.used i q hq m hm
  ·rw[if_neg e]at hq
   have hi:i=P.length:=by
    have:=(k0t.1 hq).1
    rw[List.length_singleton]at this
    omega
   rw[hi,Nat.sub_self]at hq
   have hq:p=q:=k0x hq
   rw[hi,if_pos rfl,hq]
 ·rw[w1k hg (by omega) hl k0 k1 hm,hk]
  rw[if_neg (fun e=>hn P.length (by rw[k1y,List.length_singleton];omega) e.symm)]
  exact h.free k m k0 k1 hm fun i hi=>hn i (by rw[k1y];omega)
theorem x2y (vol:Int)(g:GeoV)(c0:Int)(P r:List Pc){i:Nat}(hi:i≤P.length):w1j vol g c0 (P++r) i=w1j vol g c0 P i:=by
 cases i with
 |zero=>rfl
 |succ i=>
  show (match (P++r)[i]? with|some p=>z6n vol g p|none=>c0)=match P[i]? with|some p=>z6n vol g p|none=>c0
  rw[k0s (by omega)]
theorem w5m (vol:Int)(g:GeoV)(c0:Int)(P:List Pc)(p:Pc):w1j vol g c0 (P++[p]) (P++[p]).length=z6n vol g p:=by
 rw[k1y,List.length_singleton]
 show (match (P++[p])[P.length]? with|some p=>z6n vol g p|none=>c0)=_
 rw[k1q (k1v _),Nat.sub_self];rfl
structure LogP (R:Rg) (D:Dev) (b:Nat) (s0 c0:Int) (P:List Pc):Prop where
 ok:R.Ok
 clean:CleanP D R.g.secs b
 cells:CellsP R.vol R.g s0 P D.cells
 chain:Chain R.vol R.g R.epoch R.frm s0 c0 P
 next:R.next=s0+P.length
 sum:R.chain=w1j R.vol R.g c0 P P.length
 zero:0≤s0
 len:(P.length:Int)≤R.g.w
def nxR (R:Rg)(p:Pc):Rg:={ R with next:=R.next+1,chain:=z6n R.vol R.g p }
theorem z8k {p:Pc}{vol:Int}{g:GeoV}{m:Int}(hp:p.may=true)(hg:g.may=true)(hv:Y9 vol=true)(m0:0≤m)(m2:m<2):(p.sector vol g m).1.length=256:=by
 rw[(q8r hp hg hv m0 m2).1]
 have:=y4z hp
 show (J5 _).length=256
 rw[q3r,q6q _ (by show (pcB p).length≤228;omega)]
theorem z8m {R:Rg}(hR:R.Ok){D:Dev}{b:Nat}(h:CleanP D R.g.secs b){p:Pc}(hp:p.may=true):∃ E,q3d R D p=(0,(nxR R p,E))∧CleanP E R.g.secs (b+2)∧E.cells=q0s (q4z R p) D.cells:=by
 obtain⟨s0,s1⟩:=y0i hR.g (p.of_may hp).1.1
 obtain⟨_,_,q⟩:=q9s hR.g
 have l0:=z8k hp hR.g hR.vol (Int.le_refl 0) (by omega)
 have l1:=z8k hp hR.g hR.vol (m:=1) (by omega) (by omega)
 obtain⟨E,h1,h2,h3⟩:=w1i h (ps:=q4z R p) (by
  intro q hq
  unfold q4z at hq
  simp only[List.mem_cons,List.not_mem_nil,or_false]at hq
  rcases hq with rfl|rfl
  ·exact⟨by rw[y0t];show (0:Int)≤4+_;omega,by rw[y0t];show 4+_<_;omega,l0⟩
  ·exact⟨by rw[y0u];show (0:Int)≤4+R.g.w+_;omega,by rw[y0u];show 4+R.g.w+_<_;omega,l1⟩)
 refine⟨E,?_,h2,h3⟩
 unfold q3d
 rw[h1];rfl
theorem LogP.snoc {R:Rg}{D:Dev}{b:Nat}{s0 c0:Int}{P:List Pc}(h:LogP R D b s0 c0 P)(hP:(P.length:Int)<R.g.w){i n:Int}{x:x8}(hp:(pcR R i n x).may=true)(hn:R.next<4294967295) :
 ∃ E,q3d R D (pcR R i n x)=(0,(nxR R (pcR R i n x),E))∧LogP (nxR R (pcR R i n x)) E (b+2) s0 c0 (P++[pcR R i n x]):=by
 obtain⟨E,h1,h2,h3⟩:=z8m h.ok h.clean hp
 refine⟨E,h1,?_⟩
 have hw:=z6b R.vol R.g (pcR R i n x)
 have hq:(pcR R i n x).seq=R.next∧(pcR R i n x).epoch=R.epoch∧(pcR R i n x).frm=R.frm∧(pcR R i n x).chain=R.chain:=⟨rfl,rfl,rfl,rfl⟩
 generalize pcR R i n x=p at hp h1 h3 hw hq
 obtain⟨q1,q2,q3,q4⟩:=hq
 obtain⟨o1,o2,o3,o4,o5,o6,o7⟩:=h.ok
 have c:=CellsP.snoc o1 h.cells h.zero h.clean.len (p:=p) (by rw[q1,h.next]) hP
 refine⟨⟨o1,o2,o3,⟨o4.1,?_⟩,⟨o5.1,?_⟩,?_,hw⟩,h2,by rw[h3];exact c,⟨fun j q hj=>?_⟩,?_,(w5m R.vol R.g c0 P p).symm,h.zero,?_⟩
 ·show R.frm≤R.next+1;omega
 ·show R.start≤R.next+1;omega
 ·show R.next+1≤_;omega
 ·rw[List.getElem?_append]at hj
  by_cases e:j<P.length
  ·rw[if_pos e]at hj
   rw[x2y _ _ _ _ _ (by omega)]
   exact h.chain.may j q hj
  ·rw[if_neg e]at hj
   have hi:j=P.length:=by
    have:=(k0t.1 hj).1
    rw[List.length_singleton]at this
    omega
   rw[hi,Nat.sub_self]at hj
   have hj:p=q:=k0x hj
   rw[x2y _ _ _ _ _ (by omega),hi,← hj]
   exact⟨hp,by rw[q1,h.next],q2,q3,by rw[q4];exact h.sum⟩
 ·show R.next+1=_
  rw[k1y,List.length_singleton,h.next];omega
 ·rw[k1y,List.length_singleton];show ((P.length+1:Nat):Int)≤R.g.w;omega
def mkP (n:Int):List x8→Int→Rg→List Pc
 |[],_,_=>[]
 |b :: r,i,R=>pcR R i n b :: mkP n r (i+1) (nxR R (pcR R i n b))
def y0v (n:Int):List x8→Int→Rg→Rg
 |[],_,R=>R
 |b :: r,i,R=>y0v n r (i+1) (nxR R (pcR R i n b))
theorem x6h (n:Int):∀ (l:List x8) (i:Int) (R:Rg),(y0v n l i R).g=R.g∧(y0v n l i R).vol=R.vol∧(y0v n l i R).epoch=R.epoch∧(y0v n l i R).frm=R.frm∧(y0v n l i R).start=R.start∧(y0v n l i R).next=R.next+l.length
 |[],_,R=>⟨rfl,rfl,rfl,rfl,rfl,by show R.next=R.next+0;omega⟩
 |b :: r,i,R=>by
  obtain⟨h1,h2,h3,h4,h5,h6⟩:=x6h n r (i+1) (nxR R (pcR R i n b))
  refine⟨h1,h2,h3,h4,h5,?_⟩
  show (y0v n r (i+1) (nxR R (pcR R i n b))).next=_
  rw[h6,List.length_cons]
  show R.next+1+_=_
  omega
theorem v8b (n:Int)(hn:n≤64){s0 c0:Int}:∀ (l:List x8) (i:Int) (R:Rg) (D:Dev) (b:Nat) (P:List Pc),LogP R D b s0 c0 P→0≤i→i+l.length≤n→(∀ s∈l,s.length≤200)→((P.length+l.length:Nat):Int)≤R.g.w→R.next+l.length≤4294967295 →
 ∃ E,z6q n l i R D=(0,(y0v n l i R,E))∧LogP (y0v n l i R) E (b+2*l.length) s0 c0 (P++mkP n l i R)
 |[],i,R,D,b,P,h,_,_,_,_,_=>⟨D,rfl,by rw[show mkP n [] i R=[] from rfl,List.append_nil];exact h⟩
 |x :: r,i,R,D,b,P,h,h0,hi,hl,hP,hx=>by
  rw[List.length_cons]at hi hP hx
  have hp:=y5e h.ok (i:=i) (n:=n) (b:=x) h0 (by omega) hn (hl x (by simp))
  obtain⟨E,e1,e2⟩:=h.snoc (by omega) hp (by omega)
  obtain⟨F,f1,f2⟩:=v8b n hn r (i+1) (nxR R (pcR R i n x)) E (b+2) (P++[pcR R i n x]) e2 (by omega) (by omega) (fun s hs=>hl s (by simp[hs])) (by rw[k1y,List.length_singleton];show _≤R.g.w;omega) (by show R.next+1+_≤_;omega)
  refine⟨F,?_,?_⟩
  ·show (match (q3d R D (pcR R i n x)).1 != 0 with
    |true=>q3d R D (pcR R i n x)
    |false=>z6q n r (i+1) (q3d R D (pcR R i n x)).2.1 (q3d R D (pcR R i n x)).2.2)=_
   rw[e1]
   exact f1
  ·rw[List.append_assoc]at f2
   rw[List.length_cons,show b+2*(r.length+1)=b+2+2*r.length by omega]
   exact f2
theorem v8c {R:Rg}{D:Dev}{b:Nat}{s0 c0:Int}{P:List Pc}(h:LogP R D b s0 c0 P)(hs:R.start=s0)(tx:x8)(h64:(X8 tx).length≤64)(hP:((P.length+(X8 tx).length:Nat):Int)≤R.g.w)(hx:R.next+(X8 tx).length≤4294967295) :
 ∃ E,R.append D tx=(0,(y0v (X8 tx).length (X8 tx) 0 R,E))∧LogP (y0v (X8 tx).length (X8 tx) 0 R) E (b+2*(X8 tx).length) s0 c0 (P++mkP (X8 tx).length (X8 tx) 0 R):=by
 obtain⟨E,e1,e2⟩:=v8b (X8 tx).length (by omega) (X8 tx) 0 R D b P h (Int.le_refl _) (by omega) (z2k tx) hP hx
 refine⟨E,?_,e2⟩
 have hn:=h.next
 unfold Rg.append
 rw[k1s (show ¬ (X8 tx).length > 64 by omega)]
 simp only
 rw[k1s (show ¬ R.next+(X8 tx).length - R.start > R.g.w by omega),k1s (show ¬ R.next+((X8 tx).length:Int) > 4294967295 by omega)]
 exact e1
theorem y9m (n:Int)(hn:n≤64):∀ (l:List x8) (i:Int) (R:Rg) (D:Dev) (b:Nat),R.Ok→CleanP D R.g.secs b→0≤i→i+l.length≤n→(∀ s∈l,s.length≤200)→R.next+l.length≤4294967295 →
 ∃ E,z6q n l i R D=(0,(y0v n l i R,E))∧(y0v n l i R).Ok∧CleanP E R.g.secs (b+2*l.length)
 |[],i,R,D,b,hR,h,_,_,_,_=>⟨D,rfl,hR,h⟩
 |x :: r,i,R,D,b,hR,h,h0,hi,hl,hx=>by
  rw[List.length_cons]at hi hx
  have hp:=y5e hR (i:=i) (n:=n) (b:=x) h0 (by omega) hn (hl x (by simp))
  obtain⟨E,e1,e2,_⟩:=z8m hR h hp
  have hw:=z6b R.vol R.g (pcR R i n x)
  obtain⟨o1,o2,o3,o4,o5,o6,o7⟩:=hR
  have ok:(nxR R (pcR R i n x)).Ok:=by
   refine⟨o1,o2,o3,⟨o4.1,?_⟩,⟨o5.1,?_⟩,?_,hw⟩
   ·show R.frm≤R.next+1;omega
   ·show R.start≤R.next+1;omega
   ·show R.next+1≤_;omega
  obtain⟨F,f1,f2,f3⟩:=y9m n hn r (i+1) (nxR R (pcR R i n x)) E (b+2) ok e2 (by omega) (by omega) (fun s hs=>hl s (by simp[hs])) (by show R.next+1+_≤_;omega)
  refine⟨F,?_,f2,?_⟩
  ·show (match (q3d R D (pcR R i n x)).1 != 0 with
    |true=>q3d R D (pcR R i n x)
    |false=>z6q n r (i+1) (q3d R D (pcR R i n x)).2.1 (q3d R D (pcR R i n x)).2.2)=_
   rw[e1]
   exact f1
  ·rw[List.length_cons,show b+2*(r.length+1)=b+2+2*r.length by omega]
   exact f3
theorem x6i {R:Rg}{D:Dev}{b:Nat}(hR:R.Ok)(h:CleanP D R.g.secs b)(tx:x8){n:Nat}(hn:n=(X8 tx).length) :
 (n > 64→R.append D tx=(2,(R,D)))∧(n≤64→R.next+n - R.start > R.g.w∨R.next+n > 4294967295→R.append D tx=(4,(R,D))) ∧
 (n≤64→R.next+n - R.start≤R.g.w→R.next+n≤4294967295→∃ (R':Rg) (E:Dev),R.append D tx=(0,(R',E))∧R'.Ok∧CleanP E R.g.secs (b+2*n)∧R'.g=R.g∧R'.start=R.start∧R'.next=R.next+n):=by
 refine⟨fun h64=>?_,fun h64 hf=>?_,fun h64 hw hx=>?_⟩
 ·unfold Rg.append;rw[← hn,k1t h64]
 ·unfold Rg.append;rw[← hn,k1s (show ¬ n > 64 by omega)]
  simp only
  rw[show (decide (R.next+(n:Int) - R.start > R.g.w)||decide (R.next+(n:Int) > 4294967295))=true by rw[Bool.or_eq_true,decide_eq_true_eq,decide_eq_true_eq];exact hf]
 ·obtain⟨E,e1,e2,e3⟩:=y9m (X8 tx).length (by omega) (X8 tx) 0 R D b hR h (Int.le_refl _) (by omega) (z2k tx) (by omega)
  obtain⟨i1,i2,i3,i4,i5,i6⟩:=x6h (X8 tx).length (X8 tx) 0 R
  refine⟨_,E,?_,e2,by rw[hn];exact e3,i1,i5,by rw[hn];exact i6⟩
  unfold Rg.append
  rw[k1s (show ¬ (X8 tx).length > 64 by omega)]
  simp only
  rw[k1s (show ¬ R.next+(X8 tx).length - R.start > R.g.w by omega),k1s (show ¬ R.next+((X8 tx).length:Int) > 4294967295 by omega)]
  exact e1
theorem y9n:∀ (f:Nat) (b:x8),b.length≤f→(q3y f b).length=if b.length=0 then 1 else (b.length+199) / 200
 |0,b,h=>by
  rw[if_pos (by omega)];rfl
 |f+1,b,h=>by
  unfold q3y
  split
  ·rename_i hd
   have hd:=k0z hd
   rw[List.length_cons,y9n f _ (by rw[List.length_drop];omega),List.length_drop,if_neg (by omega),if_neg (by omega)]
   omega
  ·rename_i hd
   have hd:=k0y hd
   rw[List.length_singleton]
   split
   ·rfl
   ·omega
theorem w5n (b:x8):(X8 b).length=if b.length=0 then 1 else (b.length+199) / 200:=y9n _ b (k1v _)
theorem v2a (n:Nat):x1x (UInt8.ofNat n) (UInt8.ofNat (n / 256)) (UInt8.ofNat (n / 256 ^ 2)) (UInt8.ofNat (n / 256 ^ 3))=BitVec.ofNat 32 n:=by
 apply BitVec.eq_of_getLsbD_eq
 intro i hi
 have h1:i=8*(i / 8)+i % 8:=by omega
 rw[h1,x1y _ _ _ _ (show i / 8<4 by omega) (show i % 8<8 by omega)]
 have key:∀ j,j<4→(wd (UInt8.ofNat (n / 256 ^ j))).getLsbD (i % 8)=(BitVec.ofNat 32 n).getLsbD (8*j+i % 8):=by
  intro j hj
  unfold wd
  rw[BitVec.getLsbD_ofNat,BitVec.getLsbD_ofNat,UInt8.toNat_ofNat',show (256:Nat) ^ j=2 ^ (8*j) by rw[show (256:Nat)=2 ^ 8 from rfl,Nat.pow_mul],show (2:Nat) ^ 8=2 ^ 8 from rfl,Nat.testBit_mod_two_pow,Nat.testBit_div_two_pow,k1t (show i % 8<32 by omega),k1t (show i % 8<8 by omega),k1t (show 8*j+i % 8<32 by omega),Bool.true_and,Bool.true_and,Bool.true_and,Nat.add_comm]
 have h2:i / 8=0∨i / 8=1∨i / 8=2∨i / 8=3:=by omega
 rcases h2 with h|h|h|h <;> rw[h] <;> unfold v9z
 ·have:=key 0 (by omega);rwa [Nat.pow_zero,Nat.div_one]at this
 ·have:=key 1 (by omega);rwa [Nat.pow_one]at this
 ·exact key 2 (by omega)
 ·exact key 3 (by omega)
theorem x2z {p:x8}(hp:q0u p=true):run all1 p=stN 32 all1:=by
 unfold q0u at hp
 split at hp
 ·rename_i h4
  have h4:=k0z h4
  have e:p=p.take (p.length - 4)++leB 4 (sum (p.take (p.length - 4))).toNat:=by
   rw[← eq_of_beq hp,List.take_append_drop]
  generalize p.take (p.length - 4)=m at e
  rw[e,z1z]
  show run (run all1 m) [UInt8.ofNat ((sum m).toNat / 256 ^ 0),UInt8.ofNat ((sum m).toNat / 256 ^ 1),UInt8.ofNat ((sum m).toNat / 256 ^ 2),UInt8.ofNat ((sum m).toNat / 256 ^ 3)]=_
  rw[u4m,Nat.pow_zero,Nat.div_one,Nat.pow_one,v2a,BitVec.ofNat_toNat,BitVec.setWidth_eq]
  congr 1
  show run all1 m ^^^ (run all1 m ^^^ all1)=all1
  rw[← BitVec.xor_assoc,BitVec.xor_self,BitVec.zero_xor]
 ·exact absurd hp (by decide)
def chg (s:x8)(by_:Nat→UInt8)(a:Nat):Nat→x8
 |0=>s
 |k+1=>(chg s by_ a k).set (a+k) ((chg s by_ a k).getD (a+k) 0 ^^^ by_ k)
def chd (by_:Nat→UInt8):Nat→Bool
 |0=>false
 |k+1=>chd by_ k||by_ k != 0
theorem w8b (s:x8)(b:Nat→UInt8)(a:Nat):∀ k,(chg s b a k).length=s.length
 |0=>rfl
 |k+1=>by rw[chg,List.length_set,w8b s b a k]
theorem x6j (l r:x8)(x y:UInt8)(n:Nat)(h:n=l.length):(l++x :: r).set n y=l++y :: r:=by subst h;simp
theorem y5g (l r:x8)(x:UInt8)(n:Nat)(h:n=l.length):(l++x :: r).getD n 0=x:=by subst h;simp
theorem u5w (l r:x8)(x0 x1 x2 x3:UInt8)(b:Nat→UInt8):chg (l++x0 :: x1 :: x2 :: x3 :: r) b l.length 4=l++(x0 ^^^ b 0) :: (x1 ^^^ b 1) :: (x2 ^^^ b 2) :: (x3 ^^^ b 3) :: r:=by
 have e1:chg (l++x0 :: x1 :: x2 :: x3 :: r) b l.length 1=l++(x0 ^^^ b 0) :: x1 :: x2 :: x3 :: r:=by
  show (l++x0 :: x1 :: x2 :: x3 :: r).set (l.length+0) ((l++x0 :: x1 :: x2 :: x3 :: r).getD (l.length+0) 0 ^^^ b 0)=_
  rw[y5g _ _ _ _ (Nat.add_zero _),x6j _ _ _ _ _ (Nat.add_zero _)]
 have e2:chg (l++x0 :: x1 :: x2 :: x3 :: r) b l.length 2=(l++[x0 ^^^ b 0])++(x1 ^^^ b 1) :: x2 :: x3 :: r:=by
  rw[chg,e1,show l++(x0 ^^^ b 0) :: x1 :: x2 :: x3 :: r=(l++[x0 ^^^ b 0])++x1 :: x2 :: x3 :: r by simp]
  rw[y5g _ _ _ _ (by simp),x6j _ _ _ _ _ (by simp)]
 have e3:chg (l++x0 :: x1 :: x2 :: x3 :: r) b l.length 3=(l++[x0 ^^^ b 0,x1 ^^^ b 1])++(x2 ^^^ b 2) :: x3 :: r:=by
  rw[chg,e2,show (l++[x0 ^^^ b 0])++(x1 ^^^ b 1) :: x2 :: x3 :: r=(l++[x0 ^^^ b 0,x1 ^^^ b 1])++x2 :: x3 :: r by simp]
  rw[y5g _ _ _ _ (by simp),x6j _ _ _ _ _ (by simp)]
 rw[chg,e3,show (l++[x0 ^^^ b 0,x1 ^^^ b 1])++(x2 ^^^ b 2) :: x3 :: r=(l++[x0 ^^^ b 0,x1 ^^^ b 1,x2 ^^^ b 2])++x3 :: r by simp]
 rw[y5g _ _ _ _ (by simp),x6j _ _ _ _ _ (by simp)]
 simp
theorem y3b:∀ l:x8,x0g l l=List.replicate l.length 0
 |[]=>rfl
 |x :: r=>by
  show (x ^^^ x) :: x0g r r=_
  rw[y3b r,UInt8.xor_self];rfl
theorem w1m:∀ (l l' r r':x8),l.length=l'.length→x0g (l++r) (l'++r')=x0g l l'++x0g r r'
 |[],[],r,r',_=>rfl
 |x :: l,y :: l',r,r',h=>by
  show (x ^^^ y) :: x0g (l++r) (l'++r')=_
  rw[w1m l l' r r' (by simpa using h)];rfl
 |[],_ :: _,_,_,h=>by simp at h
 |_ :: _,[],_,_,h=>by simp at h
theorem y0w (x b:UInt8):x ^^^ (x ^^^ b)=b:=by rw[← UInt8.xor_assoc,UInt8.xor_self,UInt8.zero_xor]
theorem u1d {b:Nat→UInt8}(h0:b 0=0)(h1:b 1=0)(h2:b 2=0)(h3:b 3=0):chd b 4=false:=by
 unfold chd chd chd chd chd;rw[h0,h1,h2,h3];rfl
theorem v2b {s:x8}(hs:q0u s=true)(hl:s.length=256)(b:Nat→UInt8){a:Nat}(ha:a≤252)(hp:q0u (chg s b a 4)=true):b 0=0∧b 1=0∧b 2=0∧b 3=0:=by
 obtain⟨l,r,x0,x1,x2,x3,rfl,rfl⟩:∃ l r x0 x1 x2 x3,s=l++x0 :: x1 :: x2 :: x3 :: r∧a=l.length:=by
  have h1:(s.drop a).length=256 - a:=by rw[List.length_drop,hl]
  match hd:s.drop a,h1 with
  |x0 :: x1 :: x2 :: x3 :: r,_=>exact⟨s.take a,r,x0,x1,x2,x3,by rw[← hd,List.take_append_drop],by rw[k2u];omega⟩
  |[],h=>simp at h;omega
  |[_],h=>simp at h;omega
  |[_,_],h=>simp at h;omega
  |[_,_,_],h=>simp at h;omega
 have h1:=x2z hs
 have h2:=x2z hp
 rw[u5w]at h2
 have h3:=x8y (l++x0 :: x1 :: x2 :: x3 :: r) (l++(x0 ^^^ b 0) :: (x1 ^^^ b 1) :: (x2 ^^^ b 2) :: (x3 ^^^ b 3) :: r) all1 all1 (by simp)
 rw[h1,h2,BitVec.xor_self,BitVec.xor_self,w1m _ _ _ _ rfl,y3b]at h3
 have e:x0g (x0 :: x1 :: x2 :: x3 :: r) ((x0 ^^^ b 0) :: (x1 ^^^ b 1) :: (x2 ^^^ b 2) :: (x3 ^^^ b 3) :: r)=[b 0,b 1,b 2,b 3]++List.replicate r.length 0:=by
  show (x0 ^^^ (x0 ^^^ b 0)) :: (x1 ^^^ (x1 ^^^ b 1)) :: (x2 ^^^ (x2 ^^^ b 2)) :: (x3 ^^^ (x3 ^^^ b 3)) :: x0g r r=_
  rw[y0w,y0w,y0w,y0w,y3b];rfl
 rw[e,← List.append_assoc]at h3
 exact w9m h3.symm
theorem LiveP.mono {D:Dev}{N b c:Nat}(h:LiveP D N b)(hc:b≤c):LiveP D N c:=⟨h.ok.mono hc,h.dead,h.waits,h.len,h.well⟩
theorem CleanP.mono {D:Dev}{N b c:Nat}(h:CleanP D N b)(hc:b≤c):CleanP D N c:=⟨h.ok.mono hc,h.dead,h.armed,h.waits,h.len,h.well⟩
def z6s (f:Flt)(c:Cell):Cell:=if f.kind=1 then { c with s:=q7a f c.s 4 } else if f.kind=2 then { c with s:=z7d,lost:=false } else { c with lost:=true }
theorem u3x {D:Dev}{N b:Nat}{f:Flt}(h:CleanP D N b)(h0:0≤f.at_)(h1:f.at_<(N:Int))(k1:1≤f.kind)(k3:f.kind≤3)(o0:0≤f.off)(o1:f.off<256) :
 ∃ E,D.fault f=(0,E)∧CleanP E N (b+1)∧E.cells=D.cells.modify f.at_.toNat (z6s f):=by
 have hok:=h.ok.fault f
 have hh:D.has f.at_=true:=by
  have:=x5w h.len (k:=f.at_.toNat) (by omega)
  rwa [show ((f.at_.toNat:Nat):Int)=f.at_ by omega]at this
 have hm:D.may f=0:=by
  unfold Dev.may
  rw[hh]
  simp only
  rw[k1s (show ¬ f.kind<1 by omega),k1s (show ¬ f.kind > 5 by omega),k1s (show ¬ f.off<0 by omega),k1s (show ¬ f.off≥256 by omega),show (f.kind==4)=false from beq_eq_false_iff_ne.mpr (by omega),show (f.kind==5)=false from beq_eq_false_iff_ne.mpr (by omega)]
  simp
 have hs:D.settle f.at_=D:=by
  unfold Dev.settle;rw[h.waits]
  obtain⟨c,w,ar,de,le,op⟩:=D
  have hw:w=[]:=h.waits
  subst hw;rfl
 have e:D.fault f=(0,D.upd f.at_ (z6s f)):=by
  unfold Dev.fault;rw[hm]
  show (0,D.hurt f)=_
  unfold Dev.hurt
  rw[hs]
  have hk:f.kind=1∨f.kind=2∨f.kind=3:=by omega
  rcases hk with k|k|k
  ·rw[if_pos k]
   congr 2
   funext c
   unfold z6s;rw[if_pos k]
  ·rw[if_neg (by omega),if_pos k]
   congr 2
   funext c
   unfold z6s;rw[if_neg (by omega),if_pos k]
  ·rw[if_neg (by omega),if_neg (by omega),if_pos k]
   congr 2
   funext c
   unfold z6s;rw[if_neg (by omega),if_neg (by omega)]
 rw[e]at hok
 refine⟨_,e,⟨hok,h.dead,h.armed,h.waits,(List.length_modify ..).trans h.len,?_⟩,rfl⟩
 intro c hc
 have hc:c∈D.cells.modify f.at_.toNat (z6s f):=hc
 obtain⟨i,hi⟩:=List.getElem?_of_mem hc
 rw[List.getElem?_modify]at hi
 cases hx:D.cells[i]? with
 |none=>rw[hx]at hi;simp at hi
 |some c0=>
  rw[hx]at hi
  have hw:=h.well c0 (k2x hx)
  have hi:some (if f.at_.toNat=i then z6s f c0 else c0)=some c:=hi
  have hi:=k0x hi
  subst hi
  split
  ·unfold z6s
   split
   ·exact hw
   ·split
    ·exact hw
    ·exact hw
  ·exact hw
theorem w5p:(W0 z7d).2≠0:=by
 have hk:(y0d z7d).sld.2=1:=by decide +kernel
 intro h
 unfold W0 at h
 split at h
 ·exact absurd h (by decide)
 ·split at h
  ·exact absurd h (by decide)
  ·rw[hk]at h
   exact absurd h (by decide)
theorem y9p (f:Flt)(s:x8)(hl:s.length=256)(h0:0≤f.off)(h1:f.off≤252):∀ k,k≤4→q7a f s k=chg s f.m f.off.toNat k
 |0,_=>rfl
 |k+1,hk=>by
  unfold q7a chg
  rw[y9p f s hl h0 h1 k (by omega),hl,k1t (show f.off+(k:Int)<((256:Nat):Int) by omega)]
def w1n (c:Cell):x8:=match c.lost with|true=>[]|false=>c.s
theorem w8c {f:Flt}{s:x8}(hw:q0u s=true)(hl:s.length=256)(k1:1≤f.kind)(k3:f.kind≤3)(o0:0≤f.off)(o1:f.off≤252)(hm:f.kind=1→chd f.m 4=true):(W0 (w1n (z6s f (q2w s)))).2≠0:=by
 have hk:f.kind=1∨f.kind=2∨f.kind=3:=by omega
 rcases hk with k|k|k
 ·unfold z6s
  rw[if_pos k]
  show (W0 (q7a f s 4)).2≠0
  rw[y9p f s hl o0 o1 4 (k1v _)]
  have hn:q0u (chg s f.m f.off.toNat 4)=false:=by
   cases hq:q0u (chg s f.m f.off.toNat 4) with
   |false=>rfl
   |true=>
    obtain⟨b0,b1,b2,b3⟩:=v2b hw hl f.m (by omega) hq
    have:=hm k
    rw[u1d b0 b1 b2 b3]at this
    exact absurd this (by decide)
  have ho:(W0 (chg s f.m f.off.toNat 4)).2=7:=by
   unfold W0
   rw[w8b,hl,hn];rfl
  rw[ho];decide
 ·unfold z6s
  rw[if_neg (by omega),if_pos k]
  exact w5p
 ·unfold z6s
  rw[if_neg (by omega),if_neg (by omega)]
  show (W0 []).2≠0
  decide
theorem y0x {s:x8}(h:(W0 s).2≠0)(vol:Int)(g:GeoV)(m slot:Int):(q0c s vol g m slot).2=false:=by
 unfold q0c
 rw[show ((W0 s).2 != 0)=true from bne_iff_ne.mpr h];rfl
theorem y3w (D:Dev)(k:Nat){c:Cell}(h:D.cells[k]?=some c):u9 D k=w1n c:=by
 unfold u9 w1n;rw[h] <;> rfl
theorem y9q {v:Int}(hv:Y9 v=true){k:Nat}(hk:k≤4294967295):q0u (q0d v k)=true∧(q0d v k).length=256:=by
 obtain⟨e1,_,e3⟩:=x2r v hv k hk
 exact⟨by rw[e1];exact q8n _,e3⟩
theorem x6k {p:Pc}{vol:Int}{g:GeoV}{m:Int}(hp:p.may=true)(hg:g.may=true)(hv:Y9 vol=true)(m0:0≤m)(m2:m<2):q0u (p.sector vol g m).1=true∧(p.sector vol g m).1.length=256:=
 ⟨by rw[(q8r hp hg hv m0 m2).1];exact q8n _,z8k hp hg hv m0 m2⟩
theorem CellsP.whole {vol:Int}{g:GeoV}{s0:Int}{P:List Pc}{cs:List Cell}(h:CellsP vol g s0 P cs)(hg:g.may=true)(hv:Y9 vol=true)(hp:∀ (i:Nat) (p:Pc),P[i]?=some p→p.may=true){k m:Int}(k0:0≤k)(k1:k<g.w)(hm:m=0∨m=1) :
 ∃ s,cs[(q0j g m k).toNat]?=some (q2w s)∧q0u s=true∧s.length=256:=by
 obtain⟨g1,g2,_⟩:=g.of_may hg
 by_cases e:∃ i:Nat,i<P.length∧q6j g s0 i=k
 ·obtain⟨i,hi,rfl⟩:=e
  obtain⟨a,b⟩:=x6k (hp i _ (k0w hi)) hg hv (m:=m) (by omega) (by omega)
  exact⟨_,h.used i _ (k0w hi) m hm,a,b⟩
 ·have hk:(q0j g m k).toNat≤4294967295:=by
   rcases hm with rfl|rfl
   ·rw[y0t];omega
   ·rw[y0u];omega
  obtain⟨a,b⟩:=y9q hv hk
  exact⟨_,h.free k m k0 k1 hm fun i hi he=>e ⟨i,hi,he⟩,a,b⟩
theorem y0y {N:Nat}:∀ (ps:List Put9) {D:Dev} {b:Nat} (m:Int),(∀ p∈ps,x0q N p)→CleanP D N b →
 ∃ E m',q3u z4x ps D m=(0,(E,m'))∧CleanP E N (b+ps.length)∧E.cells=q0s ps D.cells
 |[],D,b,m,_,h=>⟨D,m,rfl,h,rfl⟩
 |p :: r,D,b,m,hp,h=>by
  obtain⟨h0,h1,h2⟩:=hp p (by simp)
  have hk:((p.at_.toNat:Nat):Int)=p.at_:=by omega
  obtain⟨E,g1,g2,g3⟩:=y9d h (k:=p.at_.toNat) (by omega) h2
  rw[hk]at g1
  have eg:z4x D m p.at_ p.s=(0,(E,y2z 0 m)):=by unfold z4x;rw[g1]
  obtain⟨F,m',k1,k2,k3⟩:=y0y r (y2z 0 m) (fun q hq=>hp q (by simp[hq])) g2
  refine⟨F,m',?_,by rw[List.length_cons,show b+(r.length+1)=b+1+r.length by omega];exact k2,by rw[k3,g3];rfl⟩
  rw[q4s,eg];exact k1
theorem y9r {N:Nat}(ps:List Put9){D:Dev}{b:Nat}(hp:∀ p∈ps,x0q N p)(h:CleanP D N b):∃ E,D.all9 ps=(0,E)∧CleanP E N (b+ps.length)∧E.cells=q0s ps D.cells:=by
 obtain⟨E,m',h1,h2,h3⟩:=y0y ps 0 hp h
 exact⟨E,by unfold Dev.all9;rw[h1],h2,h3⟩
theorem x3a {ps:List Put9}{base:Nat}(hb:∀ (t:Nat) (x:Put9),ps[t]?=some x→x.at_=((base+t:Nat):Int)){cs:List Cell}(hl:base+ps.length≤cs.length):∀ j,j≤ps.length →
 (∀ (t:Nat) (x:Put9),ps[t]?=some x→(q0s (ps.take j) cs)[base+t]?=if t<j then some (q2w x.s) else cs[base+t]?)∧∀ a,(a<base∨base+ps.length≤a)→(q0s (ps.take j) cs)[a]?=cs[a]?
 |0,_=>⟨fun t x _=>by rw[if_neg (by omega)];rfl,fun a _=>rfl⟩
 |j+1,hj=>by
  obtain⟨h1,h2⟩:=x3a hb hl j (by omega)
  have hx:=k0w (show j<ps.length by omega)
  generalize ps[j]=y at hx
  have hy:=hb j y hx
  have e:q0s (ps.take (j+1)) cs=(q0s (ps.take j) cs).set (base+j) (q2w y.s):=by
   rw[k2t,hx,x2q]
   show (q0s (ps.take j) cs).set y.at_.toNat (q2w y.s)=_
   rw[hy,k0u]
  have hlen:=z6c (ps.take j) cs
  rw[e]
  refine⟨fun t x ht=>?_,fun a ha=>?_⟩
  ·rw[List.getElem?_set]
   by_cases et:j=t
   ·subst et
    rw[hx]at ht
    obtain rfl:=k0x ht
    rw[if_pos rfl,if_pos (by omega),if_pos (by omega)]
   ·rw[if_neg (by omega),h1 t x ht]
    by_cases e2:t<j
    ·rw[if_pos e2,if_pos (by omega)]
    ·rw[if_neg e2,if_neg (by omega)]
  ·rw[List.getElem?_set,if_neg (by omega)]
   exact h2 a ha
structure SnapG (vol:Int) (g:GeoV) (area epoch no:Int) (k m S:Nat):Prop where
 may:g.may=true
 hk:g.k=k
 hm:g.m=m
 hs:g.s=S
 a0:0≤area
 a1:area≤1
 word:q4f [vol,epoch,no]=true
def GeoV.base (g:GeoV)(area:Int):Nat:=(4+2*g.w+area*(g.s*(g.k+g.m))).toNat
variable {vol:Int} {g:GeoV} {area epoch no:Int} {k m S:Nat}
theorem SnapG.first (h:SnapG vol g area epoch no k m S){s:Nat}(hs:s<S):q2b g area s:=⟨h.may,h.a0,h.a1,by omega,by have:=h.hs;omega⟩
theorem SnapG.nat (h:SnapG vol g area epoch no k m S):1≤S∧S≤32∧1≤k∧k≤16∧1≤m∧m≤8:=by
 obtain⟨h1,h2,h3,h4,h5,h6,h7,h8⟩:=V6 (V4 h.may)
 have:=h.hk;have:=h.hm;have:=h.hs
 omega
theorem SnapG.base0 (h:SnapG vol g area epoch no k m S):0≤4+2*g.w+area*(g.s*(g.k+g.m))∧area*(g.s*(g.k+g.m))=area*((S*(k+m):Nat):Int):=by
 obtain⟨h1,h2,h3,h4,h5,h6,h7,h8⟩:=V6 (V4 h.may)
 have e:g.s*(g.k+g.m)=((S*(k+m):Nat):Int):=by rw[h.hk,h.hm,h.hs];simp
 rw[e]
 have:0≤area*((S*(k+m):Nat):Int):=Int.mul_nonneg h.a0 (by omega)
 exact⟨by omega,rfl⟩
theorem SnapG.at_ (h:SnapG vol g area epoch no k m S)(s:Nat):g.at_ area s=((g.base area+s*(k+m):Nat):Int):=by
 obtain⟨b0,_⟩:=h.base0
 unfold GeoV.at_ GeoV.base
 rw[Int.add_mul,Int.mul_assoc,Int.natCast_add,Int.toNat_of_nonneg b0,h.hk,h.hm,h.hs]
 simp only[Int.natCast_mul,Int.natCast_add]
 omega
theorem SnapG.fits (h:SnapG vol g area epoch no k m S):g.base area+S*(k+m)≤g.secs∧g.secs≤4096:=by
 obtain⟨b0,b1⟩:=h.base0
 obtain⟨q1,q2,_⟩:=q9s h.may
 have e:2*g.s*(g.k+g.m)=2*((S*(k+m):Nat):Int):=by rw[h.hk,h.hm,h.hs,Int.mul_assoc];simp
 rw[e]at q1
 have ha:area=0∨area=1:=by have:=h.a0;have:=h.a1;omega
 refine⟨?_,q2⟩
 unfold GeoV.base
 rw[b1]
 generalize S*(k+m)=n at *
 rcases ha with rfl|rfl
 ·rw[Int.zero_mul];omega
 ·rw[Int.one_mul];omega
theorem z8n {S n s i:Nat}(hs:s<S)(hi:i<n):s*n+i<S*n:=by
 have:=k2v n (show s+1≤S from hs)
 rw[Nat.succ_mul]at this
 omega
theorem w5q {P:x8}{k m S s:Nat}(hP:P.length=228*(S*k))(hs:s<S):∀ x∈J2 P k m s,x.length=228:=fun x hx=>by
 have hr:228*((s+1)*k)≤P.length:=by rw[hP];exact Nat.mul_le_mul_left 228 (k2v k hs)
 unfold J2 at hx
 rcases List.mem_append.mp hx with h|h
 ·exact q9q hr _ h
 ·unfold q8w at h
  rw[List.mem_map]at h
  obtain⟨a,_,rfl⟩:=h
  exact X2 a (q9q hr) (k1v _)
theorem y3c {P:x8}{k m S s i:Nat}(hP:P.length=228*(S*k))(hs:s<S)(hi:i<k+m):((J2 P k m s).getD i []).length=228:=by
 rw[k0v,k0w (by rw[q9r];exact hi)]
 exact w5q hP hs _ (k1w _)
theorem w5r {a b c:Int}(h:q4f [a,b,c]=true):Y9 a=true∧Y9 b=true∧Y9 c=true:=by
 unfold q4f at h
 simp only[List.all_cons,List.all_nil,Bool.and_true,Bool.and_eq_true,decide_eq_true_eq]at h
 unfold Y9
 simp only[Bool.and_eq_true,decide_eq_true_eq]
 exact⟨h.1,h.2.1,h.2.2⟩
abbrev w5s (vol:Int)(g:GeoV)(area epoch no:Int)(P:x8)(k m s i:Nat):Blk:=⟨4,vol,g.at_ area s+i,epoch,no,(J2 P k m s).getD i []⟩
abbrev w1p (vol:Int)(g:GeoV)(area epoch no:Int)(P:x8)(k m s i:Nat):x8:=(v7q vol g area epoch no (J2 P k m s) s i).s
theorem SnapG.sector (h:SnapG vol g area epoch no k m S){P:x8}(hP:P.length=228*(S*k)){s i:Nat}(hs:s<S)(hi:i<k+m) :
 (w1p vol g area epoch no P k m s i).length=256∧q0u (w1p vol g area epoch no P k m s i)=true∧W0 (w1p vol g area epoch no P k m s i)=(w5s vol g area epoch no P k m s i,0):=by
 obtain⟨f1,f2⟩:=h.fits
 obtain⟨w1,w2,w3⟩:=w5r h.word
 have hlt:=z8n hs hi
 have hl:=y3c (m:=m) hP hs hi
 have hn:(w5s vol g area epoch no P k m s i).nums=true:=by
  have w4:Y9 (g.at_ area s+i)=true:=by
   rw[h.at_ s]
   unfold Y9
   simp only[Bool.and_eq_true,decide_eq_true_eq]
   omega
  show (decide ((4:Int)≥1)&&decide ((4:Int)≤4)&&[vol,g.at_ area s+i,epoch,no].all Y9)=true
  simp only[List.all_cons,List.all_nil,w1,w2,w3,w4]
  rfl
 have e:(w5s vol g area epoch no P k m s i).sld=(J5 (w5s vol g area epoch no P k m s i).all,0):=by
  unfold Blk.sld;rw[hn,k1s (show ¬ ((J2 P k m s).getD i []).length > 228 by omega)]
 have es:w1p vol g area epoch no P k m s i=J5 (w5s vol g area epoch no P k m s i).all:=by
  show (w5s vol g area epoch no P k m s i).sld.1=_
  rw[e]
 have hall:=q6q (w5s vol g area epoch no P k m s i) (by show ((J2 P k m s).getD i []).length≤228;omega)
 rw[es]
 exact⟨by rw[q3r,hall],q8n _,z5v hn (by show ((J2 P k m s).getD i []).length≤228;omega)⟩
theorem SnapG.kept (h:SnapG vol g area epoch no k m S){P:x8}(hP:P.length=228*(S*k)){s i:Nat}(hs:s<S)(hi:i<k+m) :
 q5u vol (g.at_ area s) no i (w1p vol g area epoch no P k m s i)=(J2 P k m s).getD i []:=by
 unfold q5u
 rw[(h.sector hP hs hi).2.2]
 have hl:=y3c (m:=m) hP hs hi
 simp only[beq_self_eq_true,Bool.true_and,Bool.and_true]
 rw[show ((((J2 P k m s).getD i []).length:Int)==228)=true from by rw[hl];rfl]
theorem z6h {P:x8}:∀ S' s i,s<S'→i<k+m→(q5t vol g area epoch no P k m S')[s*(k+m)+i]?=some (v7q vol g area epoch no (J2 P k m s) s i)
 |0,s,i,hs,_=>by omega
 |S'+1,s,i,hs,hi=>by
  have hl:=q4y (vol:=vol) (g:=g) (area:=area) (epoch:=epoch) (no:=no) (P:=P) (k:=k) (m:=m) S'
  unfold q5t
  by_cases e:s<S'
  ·rw[k0s (by rw[hl];exact z8n e hi)]
   exact z6h S' s i e hi
  ·have e:s=S':=by omega
   subst e
   rw[k1q (by rw[hl];omega),hl,Nat.add_sub_cancel_left]
   unfold z2j
   rw[k1z,k2s (by rw[q9r];exact hi)];rfl
theorem y3d {n t:Nat}(_hn:0<n):t=(t / n)*n+t % n:=by
 have:=Nat.div_add_mod t n
 rw[Nat.mul_comm]at this
 omega
theorem SnapG.puts_at (h:SnapG vol g area epoch no k m S){P:x8}{t:Nat}{x:Put9}(ht:(q5t vol g area epoch no P k m S)[t]?=some x):x.at_=((g.base area+t:Nat):Int):=by
 obtain⟨_,_,k1,_,_,_⟩:=h.nat
 have hlt:t<S*(k+m):=by have:=(k0t.1 ht).1;rwa [q4y]at this
 have hn:0<k+m:=by omega
 have e:=y3d (t:=t) hn
 have hs:t / (k+m)<S:=Nat.div_lt_of_lt_mul (by rw[Nat.mul_comm];exact hlt)
 have hi:t % (k+m)<k+m:=Nat.mod_lt _ hn
 have:=z6h (vol:=vol) (g:=g) (area:=area) (epoch:=epoch) (no:=no) (P:=P) S _ _ hs hi
 rw[← e,ht]at this
 rw[k0x this]
 show g.at_ area ((t / (k+m):Nat):Int)+((t % (k+m):Nat):Int)=_
 rw[h.at_]
 omega
theorem SnapG.puts_ok (h:SnapG vol g area epoch no k m S){P:x8}(hP:P.length=228*(S*k)):∀ p∈q5t vol g area epoch no P k m S,x0q g.secs p:=fun p hp=>by
 obtain⟨t,ht⟩:=List.getElem?_of_mem hp
 obtain⟨_,_,k1,_,_,_⟩:=h.nat
 have hlt:t<S*(k+m):=by have:=(k0t.1 ht).1;rwa [q4y]at this
 have hn:0<k+m:=by omega
 have e:=y3d (t:=t) hn
 have hs:t / (k+m)<S:=Nat.div_lt_of_lt_mul (by rw[Nat.mul_comm];exact hlt)
 have hi:t % (k+m)<k+m:=Nat.mod_lt _ hn
 have hg:=z6h (vol:=vol) (g:=g) (area:=area) (epoch:=epoch) (no:=no) (P:=P) S _ _ hs hi
 rw[← e,ht]at hg
 have hat:=h.puts_at ht
 obtain⟨f1,f2⟩:=h.fits
 refine⟨by omega,by omega,?_⟩
 rw[k0x hg]
 exact(h.sector hP hs hi).1
theorem SnapG.cells (h:SnapG vol g area epoch no k m S){P:x8}{cs:List Cell}(hl:cs.length=g.secs){j:Nat}(hj:j≤S*(k+m)) :
 (∀ s i,s<S→i<k+m→(q0s ((q5t vol g area epoch no P k m S).take j) cs)[g.base area+(s*(k+m)+i)]?=if s*(k+m)+i<j then some (q2w (w1p vol g area epoch no P k m s i)) else cs[g.base area+(s*(k+m)+i)]?) ∧
 ∀ a,(a<g.base area∨g.base area+S*(k+m)≤a)→(q0s ((q5t vol g area epoch no P k m S).take j) cs)[a]?=cs[a]?:=by
 obtain⟨f1,f2⟩:=h.fits
 have hlen:=q4y (vol:=vol) (g:=g) (area:=area) (epoch:=epoch) (no:=no) (P:=P) (k:=k) (m:=m) S
 obtain⟨h1,h2⟩:=x3a (ps:=q5t vol g area epoch no P k m S) (base:=g.base area) (fun t x ht=>h.puts_at ht) (cs:=cs) (by rw[hlen];omega) j (by omega)
 rw[hlen]at h2
 exact⟨fun s i hs hi=>h1 _ _ (z6h S s i hs hi),h2⟩
theorem w5t {D:Dev}{N b:Nat}(h:CleanP D N b){A:Nat}:∀ n,A+n≤N→(D.reads A n).1=(List.range n).map (fun i=>u9 D (A+i))∧CleanP (D.reads A n).2 N b∧(D.reads A n).2.cells=D.cells
 |0,_=>⟨rfl,h,rfl⟩
 |n+1,hk=>by
  obtain⟨h1,h2,h3⟩:=w5t h (A:=A) n (by omega)
  obtain⟨r1,r2,r3⟩:=u1z h2 (show A+n<N by omega)
  have ec:((A+n:Nat):Int)=(A:Int)+n:=by omega
  rw[ec]at r1 r2
  refine⟨?_,?_,?_⟩
  ·show (D.reads A n).1++[((D.reads A n).2.read ((A:Int)+n)).1.1]=_
   rw[h1,r1,List.range_succ,List.map_append]
   unfold u9
   rw[h3];rfl
  ·show CleanP ((D.reads A n).2.read ((A:Int)+n)).2 N b
   rw[r2];exact r3
  ·show ((D.reads A n).2.read ((A:Int)+n)).2.cells=_
   rw[r2];exact h3
def z3e (vol:Int)(g:GeoV)(area no:Int)(n:Nat)(E:Dev)(s:Nat):List x8:=(List.range n).map fun i=>q5u vol (g.at_ area s) no i (u9 E (g.base area+(s*n+i)))
def v2c (vol:Int)(g:GeoV)(area no:Int)(k m:Nat)(E:Dev)(s:Nat):Bool:=decide ((V1 (z3e vol g area no (k+m) E s) k (k+m)).length<k)
structure TrueP (vol:Int) (g:GeoV) (area epoch no:Int) (P:x8) (k m S:Nat) (E:Dev):Prop where
 all:∀ s i,s<S→i<k+m→q5u vol (g.at_ area s) no i (u9 E (g.base area+(s*(k+m)+i)))=[]∨q5u vol (g.at_ area s) no i (u9 E (g.base area+(s*(k+m)+i)))=(J2 P k m s).getD i []
theorem x3b {vol:Int}{g:GeoV}{area no:Int}{n:Nat}{E:Dev}{s i:Nat}(hi:i<n):(z3e vol g area no n E s).getD i []=q5u vol (g.at_ area s) no i (u9 E (g.base area+(s*n+i))):=by
 unfold z3e
 rw[k0v,k1z,k2s hi];rfl
theorem v8d (h:SnapG vol g area epoch no k m S){P:x8}(hP:P.length=228*(S*k)){E:Dev}{b:Nat}(hE:CleanP E g.secs b)(hT:TrueP vol g area epoch no P k m S E){s:Nat}(hs:s<S) :
 q1u (E.reads (g.at_ area s) (k+m)).1 vol g area s no=match v2c vol g area no k m E s with|true=>([],22)|false=>(J2 P k m s,0):=by
 obtain⟨n1,n2,n3,n4,n5,n6⟩:=h.nat
 obtain⟨f1,f2⟩:=h.fits
 have hlt:=z8n (n:=k+m) (i:=k+m - 1) hs (by omega)
 obtain⟨r1,_,_⟩:=w5t hE (A:=g.base area+s*(k+m)) (k+m) (by omega)
 rw[h.at_ s,r1]
 have hL:q7e vol (g.at_ area s) no ((List.range (k+m)).map fun i=>u9 E (g.base area+s*(k+m)+i))=z3e vol g area no (k+m) E s:=by
  unfold q7e z3e
  rw[k1x,k3q]
  refine List.map_congr_left fun i hi=>?_
  rw[k0v,k1z,k2s (List.mem_range.mp hi)]
  show q5u vol (g.at_ area s) no i (u9 E (g.base area+s*(k+m)+i))=_
  rw[Nat.add_assoc]
 have hw:q4f [vol,no]=true:=by
  obtain⟨w1,_,w3⟩:=w5r h.word
  unfold q4f
  unfold Y9 at w1 w3
  simp only[List.all_cons,List.all_nil,Bool.and_true,Bool.and_eq_true,decide_eq_true_eq]at *
  omega
 unfold q1u
 rw[z0w (h.first hs),hw,show (((((List.range (k+m)).map fun i=>u9 E (g.base area+s*(k+m)+i)).length:Nat):Int)==g.k+g.m)=true from by rw[k1x,k3q,h.hk,h.hm];exact beq_iff_eq.mpr (by omega),hL]
 show (match (z0t (z3e vol g area no (k+m) E s) g.k.toNat g.m.toNat 228).2 != 0 with|true=>(([],22):List x8 × Int)|false=>_)=_
 rw[h.hk,h.hm,k0u,k0u]
 cases hf:v2c vol g area no k m E s with
 |true=>
  unfold v2c at hf
  unfold z0t
  rw[hf];rfl
 |false=>
  unfold v2c at hf
  have hr:228*((s+1)*k)≤P.length:=by rw[hP];exact Nat.mul_le_mul_left 228 (k2v k hs)
  have hd:=v1b (S:=z3e vol g area no (k+m) E s) (k:=k) (m:=m) (c:=228) (by omega) (by decide) (q9p P k s) (q9q hr) (fun i hi h0=>by
   rw[x3b hi]at h0 ⊢
   rcases hT.all s i hs hi with e|e
   ·rw[e]at h0;simp at h0
   ·exact e) (k0y hf)
  rw[hd];rfl
end Go.Proofs.YtkjklhcfgbaceaaGreat.AL
namespace Go.Proofs.YtkjklhcfgbaceaaGreat.AL
open Go Go.Proofs Go.Proofs.YtkjklhcfgbaceaaGreat.AL.Crc
def x6m (S:List x8):Nat→Nat
 |0=>0
 |i+1=>x6m S i+(if 0<(S.getD i []).length then 1 else 0)
theorem x3c (S:List x8)(most:Nat):∀ i,(V1 S most i).length=min most (x6m S i)
 |0=>by show 0=min most 0;omega
 |i+1=>by
  have ih:=x3c S most i
  unfold x6m
  cases h:pkd S most i with
  |true=>
   rw[(q7m h).1,k1y,List.length_singleton]
   unfold pkd at h
   rw[k1u,decide_eq_true_eq,decide_eq_true_eq]at h
   rw[if_pos h.2];omega
  |false=>
   rw[(q8t h).1]
   unfold pkd at h
   rw[Bool.and_eq_false_iff,decide_eq_false_iff_not,decide_eq_false_iff_not]at h
   rcases h with h|h
   ·split <;> omega
   ·rw[if_neg h];omega
theorem u1e {vol:Int}{g:GeoV}{area no:Int}{k m:Nat}{E:Dev}{s:Nat}:v2c vol g area no k m E s=decide (x6m (z3e vol g area no (k+m) E s) (k+m)<k):=by
 unfold v2c
 rw[x3c]
 by_cases h:x6m (z3e vol g area no (k+m) E s) (k+m)<k
 ·rw[k1t h,k1t (by omega)]
 ·rw[k1s h,k1s (by omega)]
theorem x3d {s:x8}(h:(W0 s).2≠0)(vol a no:Int)(i:Nat):q5u vol a no i s=[]:=by
 unfold q5u
 rw[show ((W0 s).2==0)=false from beq_eq_false_iff_ne.mpr h];rfl
variable {vol:Int} {g:GeoV} {area epoch no:Int} {k m S:Nat}
theorem SnapG.room (h:SnapG vol g area epoch no k m S):g.room=((228*(S*k):Nat):Int):=by
 unfold GeoV.room
 rw[h.may,h.hs,h.hk]
 show (S:Int)*k*228=_
 rw[Int.mul_comm];simp
structure WroteP (vol:Int) (g:GeoV) (area epoch no:Int) (P:x8) (k m S:Nat) (E:Dev):Prop where
 there:∀ s i,s<S→i<k+m→E.cells[g.base area+(s*(k+m)+i)]?=some (q2w (w1p vol g area epoch no P k m s i))
theorem SnapG.putsB (h:SnapG vol g area epoch no k m S){b:x8}(hb:b.length≤228*(S*k)):putsB vol g area epoch no b=(q5t vol g area epoch no (z6p (228*(S*k)) b) k m S,0):=by
 obtain⟨n1,_⟩:=h.nat
 unfold Go.Proofs.YtkjklhcfgbaceaaGreat.AL.putsB
 rw[show q1x g area 0=(g.at_ area 0,0) from z0w (h.first (s:=0) (by omega)),h.word,h.room,k1s (show ¬ (b.length:Int) > ((228*(S*k):Nat):Int) by omega),k0u,h.hk,h.hm,h.hs,k0u,k0u,k0u]
 rfl
theorem w1q (h:SnapG vol g area epoch no k m S){b:x8}(hb:b.length≤228*(S*k)){D:Dev}{n:Nat}(hD:CleanP D g.secs n) :
 ∃ E,D.snapWrite vol g area epoch no b=(0,E)∧CleanP E g.secs (n+S*(k+m))∧WroteP vol g area epoch no (z6p (228*(S*k)) b) k m S E∧∀ a,(a<g.base area∨g.base area+S*(k+m)≤a)→E.cells[a]?=D.cells[a]?:=by
 have hP:=y0p hb
 obtain⟨E,e1,e2,e3⟩:=y9r _ (h.puts_ok hP) hD
 have hlen:=q4y (vol:=vol) (g:=g) (area:=area) (epoch:=epoch) (no:=no) (P:=z6p (228*(S*k)) b) (k:=k) (m:=m) S
 obtain⟨c1,c2⟩:=h.cells (P:=z6p (228*(S*k)) b) hD.len (k1v (S*(k+m)))
 rw[List.take_of_length_le (by omega),← e3]at c1 c2
 refine⟨E,?_,by rw[hlen]at e2;exact e2,⟨fun s i hs hi=>?_⟩,c2⟩
 ·unfold Dev.snapWrite
  rw[h.putsB hb];exact e1
 ·rw[c1 s i hs hi,if_pos (z8n hs hi)]
end Go.Proofs.YtkjklhcfgbaceaaGreat.AL
namespace Go.Proofs.YtkjklhcfgbaceaaGreat.AL
open Go Go.Proofs Go.Proofs.YtkjklhcfgbaceaaGreat.AL.Crc
def bdL (v sh:Nat→x8)(l:List Nat):List Nat:=l.filter fun a=>!(sh a==v a)
theorem z2q (v sh:Nat→x8)(l r:List Nat):bdL v sh (l++r)=bdL v sh l++bdL v sh r:=List.filter_append ..
theorem q7t (v sh:Nat→x8)(a:Nat):bdL v sh [a]=match sh a==v a with|true=>[]|false=>[a]:=by
 unfold bdL
 cases h:sh a==v a with
 |true=>rw[List.filter_cons_of_neg (by rw[h];exact Bool.false_ne_true)];rfl
 |false=>rw[List.filter_cons_of_pos (by rw[h];rfl)];rfl
abbrev y0z (sh:Nat→x8)(a:Nat):Put9:=⟨a,sh a⟩
theorem w1r (W:Nat→x8)(v sh:Nat→x8)(l:List Nat)(hW:∀ k a,l[k]?=some a→W k=sh a):∀ k,k≤l.length→U4 W (l.map v) (l.map fun a:Nat=>(a:Int)) k=(bdL v sh (l.take k)).map (y0z sh)
 |0,_=>rfl
 |k+1,hk=>by
  have hx:=k0w (show k<l.length by omega)
  generalize l[k]=a at hx
  rw[k2t,hx,z2q,List.map_append,← w1r W v sh l hW k (by omega)]
  have e1:(l.map v).getD k []=v a:=by rw[k0v,k1z,hx];rfl
  have e2:(l.map fun a:Nat=>(a:Int)).getD k 0=a:=by rw[k0v,k1z,hx];rfl
  show (match W k==(l.map v).getD k []with
   |true=>U4 W (l.map v) (l.map fun a:Nat=>(a:Int)) k
   |false=>U4 W (l.map v) (l.map fun a:Nat=>(a:Int)) k++[⟨(l.map fun a:Nat=>(a:Int)).getD k 0,W k⟩])=_++(bdL v sh [a]).map (y0z sh)
  rw[e1,e2,hW k a hx,q7t]
  cases sh a==v a with
  |true=>exact(List.append_nil _).symm
  |false=>rfl
theorem z1e {W:Nat→x8}{v sh:Nat→x8}{l:List Nat}(hW:∀ k a,l[k]?=some a→W k=sh a):U4 W (l.map v) (l.map fun a:Nat=>(a:Int)) (l.map fun a:Nat=>(a:Int)).length=(bdL v sh l).map (y0z sh):=by
 rw[w1r W v sh l hW _ (by rw[k1x];exact k1v _),k1x,List.take_length]
theorem z8p {vol:Int}{a:Nat}{s:x8}(h:s=q0d vol a∨(W0 s).2≠0):q4g vol a s=q0d vol a:=by
 rcases h with rfl|h
 ·unfold q4g
  split
  ·rfl
  ·rfl
 ·unfold q4g
  rw[show ((W0 s).2==0)=false from beq_eq_false_iff_ne.mpr h]
  rfl
theorem q0v {D:Dev}{a:Nat}{s:x8}(h:D.cells[a]?=some (q2w s)):u9 D a=s:=y3w D a h
structure LaidP (x:Sup) (next:Int) (w k m S:Nat) (P:List Pc) (B:x8) (D:Dev):Prop where
 xm:x.may=true
 G:SnapG x.vol x.g x.area 0 x.snap k m S
 hw:x.g.w=w
 sup:∀ i:Nat,i<4→D.cells[i]?=some (q2w (x.sector i).1)
 log:CellsP x.vol x.g x.start P D.cells
 pc:∀ (i:Nat) (p:Pc),P[i]?=some p→p.may=true∧p.seq=x.start+i
 fit:P.length≤w
 nx:next=x.start+P.length
 most:next≤4294967295
 snap:WroteP x.vol x.g x.area 0 x.snap B k m S D
 hB:B.length=228*(S*k)
 other:∀ a:Nat,x.g.base (1 - x.area)≤a→a<x.g.base (1 - x.area)+S*(k+m)→D.cells[a]?=some (q2w (q0d x.vol a))
def y9s (D E:Dev)(N:Nat):Prop:=∀ a,a<N→u9 E a=u9 D a∨(W0 (u9 E a)).2≠0
variable {x:Sup} {next:Int} {w k m S:Nat} {P:List Pc} {B:x8} {D:Dev}
theorem LaidP.start (h:LaidP x next w k m S P B D):(0≤x.start∧x.start≤4294967295)∧x.g.may=true:=y3a h.xm
theorem LaidP.vol (h:LaidP x next w k m S P B D):Y9 x.vol=true:=(w5r h.G.word).1
theorem LaidP.geo (h:LaidP x next w k m S P B D):GeoN x.g w (k+m) S:=⟨h.start.2,h.hw,by rw[h.G.hk,h.G.hm];rfl,h.G.hs⟩
def y1a (x:Sup)(w S:Nat)(P:List Pc)(i:Nat):Prop:=(1≤i∧i≤w∧∃ t:Nat,t<P.length∧q6j x.g x.start t=(i:Int) - 1)∨(w<i∧(((i - 1 - w) / S:Nat):Int)=x.area)
theorem y1b (a b:Nat):((a:Int)).tmod b=((a % b:Nat):Int):=rfl
theorem v8e (a b:Nat):((a:Int)).tdiv b=((a / b:Nat):Int):=rfl
theorem v2d {x:Sup}{w:Nat}(hw:x.g.w=w)(h0:0≤x.start){slot:Nat}(hs:slot<w):∃ t:Nat,t<w∧q9u x slot=x.start+t∧q6j x.g x.start t=slot:=by
 obtain⟨st,hst⟩:∃ st:Nat,x.start=st:=⟨x.start.toNat,by omega⟩
 have hr:=Nat.mod_lt st (show 0<w by omega)
 refine⟨(slot+w - st % w) % w,Nat.mod_lt _ (by omega),?_,?_⟩
 ·unfold q9u
  rw[hst,hw,y1b,show (slot:Int) - ((st % w:Nat):Int)+(w:Int)=((slot+w - st % w:Nat):Int) by omega,y1b]
 ·unfold q6j
  rw[hst,hw,show (st:Int)+(((slot+w - st % w) % w:Nat):Int)=((st+(slot+w - st % w) % w:Nat):Int) by omega,y1b,Nat.add_mod_mod]
  have e:=Nat.div_add_mod st w
  rw[show st+(slot+w - st % w)=slot+w+w*(st / w) by omega,Nat.add_mul_mod_self_left,Nat.add_mod_right,Nat.mod_eq_of_lt hs]
theorem v8f {x:Sup}{slot seq:Int}{s0 s1:x8}{p:Pc}(hp:p.seq=seq)(h0:q0c s0 x.vol x.g 0 slot=(p,true)∨(q0c s0 x.vol x.g 0 slot).2=false)(h1:q0c s1 x.vol x.g 1 slot=(p,true)∨(q0c s1 x.vol x.g 1 slot).2=false) :
 q5w x slot seq [s0,s1] 2=match (q0c s0 x.vol x.g 0 slot).2||(q0c s1 x.vol x.g 1 slot).2 with|true=>(p,true)|false=>(Pc.zero,false):=by
 have b1:q5w x slot seq [s0,s1] 1=match (q0c s0 x.vol x.g 0 slot).2 with|true=>(p,true)|false=>(Pc.zero,false):=by
  show (match (q0c s0 x.vol x.g 0 slot).2&&((q0c s0 x.vol x.g 0 slot).1.seq==seq&&(!false||decide ((q0c s0 x.vol x.g 0 slot).1.epoch > Pc.zero.epoch))) with
  |true=>((q0c s0 x.vol x.g 0 slot).1,true)
  |false=>(Pc.zero,false))=_
  rcases h0 with h0|h0
  ·rw[h0]
   show (match true&&(p.seq==seq&&true) with|true=>(p,true)|false=>(Pc.zero,false))=(p,true)
   rw[hp,beq_self_eq_true];rfl
  ·rw[h0];rfl
 show (match (q0c s1 x.vol x.g 1 slot).2&&((q0c s1 x.vol x.g 1 slot).1.seq==seq&&(!(q5w x slot seq [s0,s1] 1).2||decide ((q0c s1 x.vol x.g 1 slot).1.epoch > (q5w x slot seq [s0,s1] 1).1.epoch))) with
  |true=>((q0c s1 x.vol x.g 1 slot).1,true)
  |false=>q5w x slot seq [s0,s1] 1)=_
 rw[b1]
 rcases h1 with h1|h1
 ·rw[h1]
  rcases h0 with h0|h0
  ·rw[h0]
   show (match true&&(p.seq==seq&&(!true||decide (p.epoch > p.epoch))) with|true=>(p,true)|false=>(p,true))=(p,true)
   split <;> rfl
  ·rw[h0]
   show (match true&&(p.seq==seq&&true) with|true=>(p,true)|false=>(Pc.zero,false))=(p,true)
   rw[hp,beq_self_eq_true];rfl
 ·rw[h1,Bool.or_false];rfl
theorem u5a {w n:Nat}:Z8 w n 0=List.range 4:=rfl
theorem w1s {w n i:Nat}(h0:1≤i)(h1:i≤w):Z8 w n i=[3+i,3+w+i]:=by unfold Z8;rw[if_neg (by omega),if_pos h1]
theorem u2a {w n i:Nat}(h1:w<i):Z8 w n i=(List.range n).map fun j=>4+2*w+(i - 1 - w)*n+j:=by unfold Z8;rw[if_neg (by omega),if_neg (by omega)]
theorem v8g (h:LaidP x next w k m S P B D)(E:Dev):q5x x next 0 ((Z8 w (k+m) 0).map fun a:Nat=>(a:Int)) ((Z8 w (k+m) 0).map (u9 E))=((bdL (u9 E) (u9 D) (Z8 w (k+m) 0)).map (y0z (u9 D)),0):=by
 show (U4 (fun j=>(x.sector j).1) _ _ _,(0:Int))=_
 rw[z1e (sh:=u9 D)]
 intro j a ha
 rw[u5a]at ha
 have hj:j<4:=by have:=(k0t.1 ha).1;rwa [k3q]at this
 rw[k2s hj]at ha
 obtain rfl:=k0x ha
 exact(q0v (h.sup j hj)).symm
theorem v2e (h:LaidP x next w k m S P B D){E:Dev}(hE:y9s D E x.g.secs){i:Nat}(i0:1≤i)(i1:i≤w) :
 ((¬ y1a x w S P i∨(bdL (u9 E) (u9 D) (Z8 w (k+m) i)).length≤1)→q5x x next i ((Z8 w (k+m) i).map fun a:Nat=>(a:Int)) ((Z8 w (k+m) i).map (u9 E))=((bdL (u9 E) (u9 D) (Z8 w (k+m) i)).map (y0z (u9 D)),0)) ∧
 (y1a x w S P i→1<(bdL (u9 E) (u9 D) (Z8 w (k+m) i)).length→q5x x next i ((Z8 w (k+m) i).map fun a:Nat=>(a:Int)) ((Z8 w (k+m) i).map (u9 E))=([],22)):=by
 obtain⟨⟨st0,st1⟩,hg⟩:=h.start
 obtain⟨e1,e2,e3,e4,e5,e6,e7,e8⟩:=h.geo.le
 have hww:=h.hw
 obtain⟨t,t1,t2,t3⟩:=v2d h.hw st0 (show i - 1<w by omega)
 have ei:(i:Int) - 1=((i - 1:Nat):Int):=by omega
 have a0:(q0j x.g 0 ((i - 1:Nat):Int)).toNat=3+i:=by rw[y0t];omega
 have a1:(q0j x.g 1 ((i - 1:Nat):Int)).toNat=3+w+i:=by rw[y0u];omega
 have hwl:q5x x next i ((Z8 w (k+m) i).map fun a:Nat=>(a:Int)) ((Z8 w (k+m) i).map (u9 E))=z3c x next ((i - 1:Nat):Int) ((Z8 w (k+m) i).map fun a:Nat=>(a:Int)) ((Z8 w (k+m) i).map (u9 E)):=by
  unfold q5x
  rw[k1s (show ¬ (i:Int)=0 by omega),k1t (show (i:Int)≤x.g.w by omega),ei]
 have n0:=hE (3+i) (by omega)
 have n1:=hE (3+w+i) (by omega)
 rw[hwl]
 unfold z3c
 rw[t2]
 by_cases hl:t<P.length
 ·rw[k1t (show x.start+(t:Int)<next by rw[h.nx];omega)]
  obtain⟨p,hp⟩:∃ p,P[t]?=some p:=⟨_,k0w hl⟩
  obtain⟨pm,ps⟩:=h.pc t p hp
  have c0:=h.log.used t p hp 0 (.inl rfl)
  have c1:=h.log.used t p hp 1 (.inr rfl)
  rw[t3,a0]at c0
  rw[t3,a1]at c1
  have d0:=q0v c0
  have d1:=q0v c1
  have hsl:p.seq.tmod x.g.w=((i - 1:Nat):Int):=by rw[ps];exact t3
  have q0:=y0h pm hg h.vol (m:=0) (by omega) (by omega)
  have q1:=y0h pm hg h.vol (m:=1) (by omega) (by omega)
  rw[hsl,← d0]at q0
  rw[hsl,← d1]at q1
  have need:y1a x w S P i:=.inl ⟨i0,i1,t,hl,by rw[t3];omega⟩
  have hb:=v8f (x:=x) (slot:=((i - 1:Nat):Int)) (seq:=x.start+t) (s0:=u9 E (3+i)) (s1:=u9 E (3+w+i)) ps (by rcases n0 with n0|n0;exact .inl (by rw[n0];exact q0);exact .inr (y0x n0 ..)) (by rcases n1 with n1|n1;exact .inl (by rw[n1];exact q1);exact .inr (y0x n1 ..))
  have hW:∀ (j:Nat) (a:Nat),(Z8 w (k+m) i)[j]?=some a→(p.sector x.vol x.g j).1=u9 D a:=by
   intro j a ha
   rw[w1s i0 i1]at ha
   match j,ha with
   |0,ha=>obtain rfl:=k0x ha;exact d0.symm
   |1,ha=>obtain rfl:=k0x ha;exact d1.symm
   |j+2,ha=>exact absurd ha (by simp)
  have hlen:((Z8 w (k+m) i).map (u9 E)).length=2:=by rw[k1x,w1s i0 i1];rfl
  have hS:(Z8 w (k+m) i).map (u9 E)=[u9 E (3+i),u9 E (3+w+i)]:=by rw[w1s i0 i1];rfl
  have hbs:q5w x ((i - 1:Nat):Int) (x.start+t) ((Z8 w (k+m) i).map (u9 E)) ((Z8 w (k+m) i).map (u9 E)).length=match (q0c (u9 E (3+i)) x.vol x.g 0 ((i - 1:Nat):Int)).2||(q0c (u9 E (3+w+i)) x.vol x.g 1 ((i - 1:Nat):Int)).2 with|true=>(p,true)|false=>(Pc.zero,false):=by rw[hlen,hS];exact hb
  have hbd:bdL (u9 E) (u9 D) (Z8 w (k+m) i)=bdL (u9 E) (u9 D) [3+i]++bdL (u9 E) (u9 D) [3+w+i]:=by rw[w1s i0 i1];exact z2q _ _ [3+i] [3+w+i]
  have l0:(bdL (u9 E) (u9 D) [3+i]).length≤1∧(u9 E (3+i)≠u9 D (3+i)→(bdL (u9 E) (u9 D) [3+i]).length=1)∧(u9 E (3+i)=u9 D (3+i)→(bdL (u9 E) (u9 D) [3+i]).length=0):=by
   rw[q7t]
   refine⟨by split <;> simp,fun hne=>?_,fun he=>?_⟩
   ·rw[beq_eq_false_iff_ne.mpr (Ne.symm hne)];rfl
   ·rw[he,beq_self_eq_true];rfl
  have l1:(bdL (u9 E) (u9 D) [3+w+i]).length≤1∧(u9 E (3+w+i)≠u9 D (3+w+i)→(bdL (u9 E) (u9 D) [3+w+i]).length=1)∧(u9 E (3+w+i)=u9 D (3+w+i)→(bdL (u9 E) (u9 D) [3+w+i]).length=0):=by
   rw[q7t]
   refine⟨by split <;> simp,fun hne=>?_,fun he=>?_⟩
   ·rw[beq_eq_false_iff_ne.mpr (Ne.symm hne)];rfl
   ·rw[he,beq_self_eq_true];rfl
  have hnb:(bdL (u9 E) (u9 D) (Z8 w (k+m) i)).length=(bdL (u9 E) (u9 D) [3+i]).length+(bdL (u9 E) (u9 D) [3+w+i]).length:=by rw[hbd,k1y]
  constructor
  ·intro hc
   have hc:(bdL (u9 E) (u9 D) [3+i]).length+(bdL (u9 E) (u9 D) [3+w+i]).length≤1:=by
    rcases hc with hc|hc
    ·exact absurd need hc
    ·omega
   have hT:((q0c (u9 E (3+i)) x.vol x.g 0 ((i - 1:Nat):Int)).2||(q0c (u9 E (3+w+i)) x.vol x.g 1 ((i - 1:Nat):Int)).2)=true:=by
    by_cases g0:u9 E (3+i)=u9 D (3+i)
    ·rw[g0,q0];rfl
    ·by_cases g1:u9 E (3+w+i)=u9 D (3+w+i)
     ·rw[g1,q1,Bool.or_true]
     ·have:=l0.2.1 g0;have:=l1.2.1 g1;omega
   rw[hT]at hbs
   rw[hbs]
   show (U4 (fun j:Nat=>(p.sector x.vol x.g (j:Int)).1) _ _ _,(0:Int))=_
   rw[z1e hW]
  ·intro _ hc
   rw[hnb]at hc
   have g0:(W0 (u9 E (3+i))).2≠0:=by
    rcases n0 with n0|n0
    ·have:=l0.2.2 n0;omega
    ·exact n0
   have g1:(W0 (u9 E (3+w+i))).2≠0:=by
    rcases n1 with n1|n1
    ·have:=l1.2.2 n1;omega
    ·exact n1
   rw[y0x g0,y0x g1]at hbs
   rw[hbs];rfl
 ·rw[k1s (show ¬ x.start+(t:Int)<next by rw[h.nx];omega)]
  have nn:∀ j:Nat,j<P.length→q6j x.g x.start j≠((i - 1:Nat):Int):=fun j hj he=>by
   have:=w8a hg st0 (i:=j) (j:=t) (by omega) (by omega)
   rw[t3,he]at this
   exact this rfl
  have c0:=h.log.free ((i - 1:Nat):Int) 0 (by omega) (by omega) (.inl rfl) nn
  have c1:=h.log.free ((i - 1:Nat):Int) 1 (by omega) (by omega) (.inr rfl) nn
  rw[a0]at c0
  rw[a1]at c1
  have d0:=q0v c0
  have d1:=q0v c1
  refine⟨fun _=>?_,fun hn=>?_⟩
  ·show (U4 (fun j=>q4g x.vol _ _) _ _ _,(0:Int))=_
   rw[z1e (sh:=u9 D)]
   intro j a ha
   rw[w1s i0 i1]at ha ⊢
   match j,ha with
   |0,ha=>
    obtain rfl:=k0x ha
    show q4g x.vol ((3+i:Nat):Int) (u9 E (3+i))=_
    rw[z8p (by rw[d0]at n0;exact n0)]
    exact d0.symm
   |1,ha=>
    obtain rfl:=k0x ha
    show q4g x.vol ((3+w+i:Nat):Int) (u9 E (3+w+i))=_
    rw[z8p (by rw[d1]at n1;exact n1)]
    exact d1.symm
   |j+2,ha=>exact absurd ha (by simp)
  ·rcases hn with ⟨_,_,j,hj,he⟩|⟨hn,_⟩
   ·exact absurd (he.trans ei) (nn j hj)
   ·omega
end Go.Proofs.YtkjklhcfgbaceaaGreat.AL
namespace Go.Proofs.YtkjklhcfgbaceaaGreat.AL
open Go Go.Proofs Go.Proofs.YtkjklhcfgbaceaaGreat.AL.Crc
variable {x:Sup} {next:Int} {w k m S:Nat} {P:List Pc} {B:x8} {D:Dev}
theorem x3e {w n i j a:Nat}(h1:w<i)(ha:(Z8 w n i)[j]?=some a):j<n∧a=4+2*w+(i - 1 - w)*n+j:=by
 rw[u2a h1,k1z]at ha
 have hj:j<n:=by
  by_cases hj:j<n
  ·exact hj
  ·rw[List.getElem?_eq_none (by rw[k3q];omega)]at ha
   exact absurd ha (by simp)
 rw[k2s hj]at ha
 exact⟨hj,(k0x ha).symm⟩
theorem v8h {v sh:Nat→x8}{l:List Nat}{K:List x8}(hK:∀ j a,l[j]?=some a→(0<(K.getD j []).length↔sh a=v a)):∀ j,j≤l.length→x6m K j+(bdL v sh (l.take j)).length=j
 |0,_=>rfl
 |j+1,hj=>by
  have hx:=k0w (show j<l.length by omega)
  generalize l[j]=a at hx
  have hk:=hK j a hx
  have ih:=v8h hK j (by omega)
  rw[k2t,hx,z2q,k1y]
  unfold x6m
  show _+_+(_+(bdL v sh [a]).length)=_
  rw[q7t]
  by_cases e:sh a=v a
  ·rw[if_pos (hk.mpr e),e,beq_self_eq_true]
   show _+1+(_+0)=_
   omega
  ·rw[if_neg (fun h=>e (hk.mp h)),beq_eq_false_iff_ne.mpr e]
   show _+0+(_+1)=_
   omega
theorem z1f {g:GeoV}{area:Int}(hg:GeoN g w (k+m) S){A:Nat}(ha:area=A):g.base area=4+2*w+A*(S*(k+m)):=by
 unfold GeoV.base
 rw[hg.hw,hg.hn,hg.hs,ha,show 4+2*(w:Int)+(A:Int)*((S:Int)*((k+m:Nat):Int))=((4+2*w+A*(S*(k+m)):Nat):Int) by simp,k0u]
theorem w1t (h:LaidP x next w k m S P B D){E:Dev}{b:Nat}(hC:CleanP E x.g.secs b)(hE:y9s D E x.g.secs){i:Nat}(i0:w<i)(i1:i<1+w+2*S) :
 ((¬ y1a x w S P i∨(bdL (u9 E) (u9 D) (Z8 w (k+m) i)).length≤m)→q5x x next i ((Z8 w (k+m) i).map fun a:Nat=>(a:Int)) ((Z8 w (k+m) i).map (u9 E))=((bdL (u9 E) (u9 D) (Z8 w (k+m) i)).map (y0z (u9 D)),0)) ∧
 (y1a x w S P i→m<(bdL (u9 E) (u9 D) (Z8 w (k+m) i)).length→q5x x next i ((Z8 w (k+m) i).map fun a:Nat=>(a:Int)) ((Z8 w (k+m) i).map (u9 E))=([],22)):=by
 obtain⟨n1,n2,n3,n4,n5,n6⟩:=h.G.nat
 obtain⟨e1,e2,e3,e4,e5,e6,e7,e8⟩:=h.geo.le
 have hww:=h.hw
 have hss:=h.G.hs
 obtain⟨A,hA⟩:∃ A:Nat,x.area=A:=⟨x.area.toNat,by have:=h.G.a0;omega⟩
 have hA1:A≤1:=by have:=h.G.a1;omega
 obtain⟨t,ht⟩:∃ t,t=i - 1 - w:=⟨_,rfl⟩
 have ei:(i:Int) - 1 - x.g.w=(t:Int):=by omega
 have hdm:=Nat.div_add_mod t S
 have hml:=Nat.mod_lt t (show 0<S by omega)
 have hq:t / S<2:=Nat.div_lt_of_lt_mul (by rw[Nat.mul_comm];omega)
 have htn:t*(k+m)=(t / S)*(S*(k+m))+(t % S)*(k+m):=by
  rw[← Nat.mul_assoc,← Nat.add_mul]
  congr 1
  rw[Nat.mul_comm];exact hdm.symm
 have hltS:∀ j,j<k+m→(t % S)*(k+m)+j<S*(k+m):=fun j hj=>z8n hml hj
 have hsec:x.g.secs=4+2*w+2*(S*(k+m)):=by rw[e7,Nat.mul_assoc]
 have hwl:q5x x next i ((Z8 w (k+m) i).map fun a:Nat=>(a:Int)) ((Z8 w (k+m) i).map (u9 E))=q4h x t ((Z8 w (k+m) i).map fun a:Nat=>(a:Int)) ((Z8 w (k+m) i).map (u9 E)):=by
  unfold q5x
  rw[k1s (show ¬ (i:Int)=0 by omega),k1s (show ¬ (i:Int)≤x.g.w by omega),ei]
 rw[hwl]
 unfold q4h
 rw[hss,v8e,y1b,hA]
 by_cases hq2:t / S=A
 ·have need:y1a x w S P i:=.inr ⟨i0,by rw[← ht,hA,hq2]⟩
  rw[show ((((t / S:Nat):Int)) != (A:Int))=false by rw[hq2];exact bne_self_eq_false _]
  have hb:=z1f h.geo hA
  have hat:=h.G.at_ (t % S)
  have hmem:∀ j a,(Z8 w (k+m) i)[j]?=some a→j<k+m∧a=x.g.base x.area+((t % S)*(k+m)+j):=fun j a ha=>by
   obtain⟨q1,q2⟩:=x3e i0 ha
   refine⟨q1,?_⟩
   rw[q2,← ht,hb,htn,hq2];omega
  have hT:TrueP x.vol x.g x.area 0 x.snap B k m S E:=⟨fun s j hs hj=>by
   obtain⟨f1,f2⟩:=h.G.fits
   have hlt:=z8n hs hj
   rcases hE (x.g.base x.area+(s*(k+m)+j)) (by omega) with e|e
   ·rw[e,q0v (h.snap.there s j hs hj)]
    exact .inr (h.G.kept h.hB hs hj)
   ·exact .inl (x3d e ..)⟩
  obtain⟨f1,f2⟩:=h.G.fits
  have hlt:=hltS (k+m - 1) (by omega)
  obtain⟨r1,_,_⟩:=w5t hC (A:=x.g.base x.area+(t % S)*(k+m)) (k+m) (by omega)
  have hst:=v8d h.G h.hB hC hT hml
  rw[hat]at hst
  have hS:(Z8 w (k+m) i).map (u9 E)=(E.reads ((x.g.base x.area+(t % S)*(k+m):Nat):Int) (k+m)).1:=by
   rw[r1,u2a i0,List.map_map]
   refine List.map_congr_left fun j hj=>?_
   show u9 E (4+2*w+(i - 1 - w)*(k+m)+j)=u9 E _
   rw[← ht,hb,htn,hq2]
   congr 1
   omega
  rw[hA]at hst hS
  rw[hS,hq2,hst,← hS,← hA]
  have hcnt:=v8h (v:=u9 E) (sh:=u9 D) (l:=Z8 w (k+m) i) (K:=z3e x.vol x.g x.area x.snap (k+m) E (t % S)) (fun j a ha=>by
   obtain⟨q1,q2⟩:=hmem j a ha
   have hlj:=hltS j q1
   have hd:u9 D a=w1p x.vol x.g x.area 0 x.snap B k m (t % S) j:=by rw[q2];exact q0v (h.snap.there _ j hml q1)
   rw[x3b q1,← q2]
   constructor
   ·intro hl
    rcases hE a (by rw[q2];omega) with e|e
    ·exact e.symm
    ·rw[x3d e]at hl;simp at hl
   ·intro he
    rw[← he,hd,h.G.kept h.hB hml q1,y3c h.hB hml q1];decide) (k+m) (by rw[z6g,if_neg (by omega),if_neg (by omega)];exact k1v _)
  rw[List.take_of_length_le (by rw[z6g,if_neg (by omega),if_neg (by omega)];exact k1v _)]at hcnt
  rw[u1e]
  generalize hnb:(bdL (u9 E) (u9 D) (Z8 w (k+m) i)).length=nb at hcnt
  constructor
  ·intro hc
   have hc:nb≤m:=by
    rcases hc with hc|hc
    ·exact absurd need hc
    ·exact hc
   rw[k1s (show ¬ x6m (z3e x.vol x.g x.area x.snap (k+m) E (t % S)) (k+m)<k by omega)]
   show (U4 (fun j=>(Blk.mk 4 x.vol (((Z8 w (k+m) i).map fun a:Nat=>(a:Int)).getD j 0) 0 x.snap ((J2 B k m (t % S)).getD j [])).sld.1) _ _ _,(0:Int))=_
   rw[z1e (sh:=u9 D)]
   intro j a ha
   obtain⟨q1,q2⟩:=hmem j a ha
   have ea:((Z8 w (k+m) i).map fun a:Nat=>(a:Int)).getD j 0=x.g.at_ x.area ((t % S:Nat):Int)+(j:Int):=by
    rw[k0v,k1z,ha,hat,q2]
    show ((_:Nat):Int)=_
    omega
   rw[ea,q2]
   exact(q0v (h.snap.there _ j hml q1)).symm
  ·intro _ hc
   rw[k1t (show x6m (z3e x.vol x.g x.area x.snap (k+m) E (t % S)) (k+m)<k by omega)]
   rfl
 ·rw[show ((((t / S:Nat):Int)) != (A:Int))=true by rw[bne_iff_ne];omega]
  refine⟨fun _=>?_,fun hn=>?_⟩
  ·show (U4 (fun j=>q4g x.vol _ _) _ _ _,(0:Int))=_
   rw[z1e (sh:=u9 D)]
   intro j a ha
   obtain⟨q1,q2⟩:=x3e i0 ha
   have hlj:=hltS j q1
   have hxa:∀ q:Nat,q<2→q≠A→1 - x.area=(q:Int):=fun q h1 h2=>by omega
   have hb:=z1f (area:=1 - x.area) h.geo (A:=t / S) (hxa _ hq hq2)
   rw[← ht,htn]at q2
   have hq3:(t / S)*(S*(k+m))≤1*(S*(k+m)):=k2v _ (by omega)
   have hc:=q0v (h.other a (by rw[hb];omega) (by rw[hb];omega))
   have ea:((Z8 w (k+m) i).map fun a:Nat=>(a:Int)).getD j 0=(a:Int):=by rw[k0v,k1z,ha];rfl
   have ev:((Z8 w (k+m) i).map (u9 E)).getD j []=u9 E a:=by rw[k0v,k1z,ha];rfl
   rw[ea,ev,z8p (by have:=hE a (by omega);rw[hc]at this;exact this)]
   exact hc.symm
  ·rcases hn with ⟨_,hn,_⟩|⟨_,hn⟩
   ·omega
   ·rw[← ht,hA]at hn
    exact absurd (by omega) hq2
def y1c (w m i:Nat):Nat:=if i=0 then 3 else if i≤w then 1 else m
theorem v2f {g:GeoV}(hg:GeoN g w (k+m) S)(hm:g.m=m){i:Nat}(hi:i<1+w+2*S):g.bears i=(y1c w m i:Int):=by
 unfold GeoV.bears y1c
 have hw:=hg.hw
 rw[k1s (show ¬ (i:Int)<0 by omega),k1s (show ¬ (i:Int)≥g.groups by rw[hg.groups];omega)]
 by_cases h0:i=0
 ·rw[k1t (show (i:Int)=0 by omega),if_pos h0];rfl
 ·rw[k1s (show ¬ (i:Int)=0 by omega),if_neg h0]
  by_cases h1:i≤w
  ·rw[k1t (show (i:Int)≤g.w by omega),if_pos h1];rfl
  ·rw[k1s (show ¬ (i:Int)≤g.w by omega),if_neg h1];exact hm
theorem w1u (h:LaidP x next w k m S P B D){E:Dev}{b:Nat}(hC:CleanP E x.g.secs b)(hE:y9s D E x.g.secs){i:Nat}(i1:i<1+w+2*S) :
 ((¬ y1a x w S P i∨(bdL (u9 E) (u9 D) (Z8 w (k+m) i)).length≤y1c w m i)→q5x x next i ((Z8 w (k+m) i).map fun a:Nat=>(a:Int)) ((Z8 w (k+m) i).map (u9 E))=((bdL (u9 E) (u9 D) (Z8 w (k+m) i)).map (y0z (u9 D)),0)) ∧
 (y1a x w S P i→y1c w m i<(bdL (u9 E) (u9 D) (Z8 w (k+m) i)).length→q5x x next i ((Z8 w (k+m) i).map fun a:Nat=>(a:Int)) ((Z8 w (k+m) i).map (u9 E))=([],22)):=by
 unfold y1c
 by_cases h0:i=0
 ·subst h0
  refine⟨fun _=>v8g h E,fun hn=>?_⟩
  rcases hn with ⟨hn,_⟩|⟨hn,_⟩ <;> omega
 ·rw[if_neg h0]
  by_cases h1:i≤w
  ·rw[if_pos h1];exact v2e h hE (by omega) h1
  ·rw[if_neg h1];exact w1t h hC hE (by omega) i1
end Go.Proofs.YtkjklhcfgbaceaaGreat.AL
namespace Go.Proofs.YtkjklhcfgbaceaaGreat.AL
open Go Go.Proofs Go.Proofs.YtkjklhcfgbaceaaGreat.AL.Crc
theorem x6n {x:Sup}{i:Int}(h:x.may=true)(h0:0≤i)(h4:i<4):(x.blk i).nums=true∧(x.blk i).body.length≤228:=by
 have hl:(U5 x.nine).length≤45:=x2p (w0r h)
 refine⟨?_,by show (U5 x.nine).length≤228;omega⟩
 unfold Sup.may Sup.words at h
 simp only[Bool.and_eq_true,List.all_cons,List.all_nil,decide_eq_true_eq]at h
 unfold Blk.nums Sup.blk
 simp only[List.all_cons,List.all_nil,Bool.and_eq_true,decide_eq_true_eq]
 have hw:Y9 i=true:=by unfold Y9;simp only[Bool.and_eq_true,decide_eq_true_eq];omega
 exact⟨by decide,h.1.1.1.1.1.1.1,hw,h.1.1.1.1.1.1.2.2.1,h.1.1.1.1.1.1.2.1,trivial⟩
theorem z6i {x:Sup}{i:Int}(h:x.may=true)(h0:0≤i)(h4:i<4):x.sector i=(J5 (x.blk i).all,0)∧W0 (J5 (x.blk i).all)=(x.blk i,0):=by
 obtain⟨hn,hl⟩:=x6n h h0 h4
 refine⟨?_,z5v hn hl⟩
 unfold Sup.sector
 rw[h,k1s (show ¬ i<0 by omega),k1s (show ¬ i≥4 by omega)]
 show (x.blk i).sld=_
 unfold Blk.sld
 rw[hn,k1s (show ¬ (x.blk i).body.length > 228 by omega)]
end Go.Proofs.YtkjklhcfgbaceaaGreat.AL
