/- A part of the proof. -/
import Derived.Laws.Strings
import Derived.Test.YtinfbclgkghgaaaGreatSnapG
/- The check of bytes: the steps of eight bits are made. -/
namespace Go.Proofs.YtinfbclgkghgaaaGreat.AL
open Go Go.Proofs Go.Proofs.YtinfbclgkghgaaaGreat.AL.Crc
abbrev u32 (x:W):PV:=.raw (.int .u32 (x.toNat:Int))
theorem y3g (x:W):BitVec.ofInt 32 (x.toNat:Int)=x:=by
 apply BitVec.eq_of_toNat_eq
 rw[BitVec.toNat_ofInt]
 have:=x.isLt
 omega
theorem w3w (x:W):IntKind.u32.wrap (x.toNat:Int)=(x.toNat:Int):=by
 have:=x.isLt
 have e:∀ n:Int,IntKind.u32.wrap n=n % 4294967296:=fun n=>by simp[IntKind.wrap,IntKind.bits,IntKind.signed]
 rw[e];omega
theorem u7t (n:Nat):IntKind.u32.wrap (n:Int)=((BitVec.ofNat 32 n).toNat:Int):=by
 have e:∀ n:Int,IntKind.u32.wrap n=n % 4294967296:=fun n=>by simp[IntKind.wrap,IntKind.bits,IntKind.signed]
 rw[e,BitVec.toNat_ofNat];omega
theorem v9h (x y:W):IntKind.u32.wrap ((BitVec.ofInt 32 (x.toNat:Int) ^^^ BitVec.ofInt 32 (y.toNat:Int)).toNat:Int)=((x ^^^ y).toNat:Int):=by rw[y3g,y3g,w3w]
theorem v4s (x:W)(k:Nat)(hk:k≤32):((x.toNat:Int).fdiv (2 ^ (min ((k:Nat):Int).toNat 32)))=((x >>> k).toNat:Int):=by
 rw[Int.toNat_natCast,Nat.min_eq_left hk,BitVec.toNat_ushiftRight,Nat.shiftRight_eq_div_pow]
 rw[Int.fdiv_eq_ediv_of_nonneg _ (Int.pow_nonneg (by omega))]
 rw[Int.natCast_ediv,Int.natCast_pow];rfl
/-- The last bit. -/
theorem v9i (x:W):(IntKind.u32.wrap ((BitVec.ofInt 32 (x.toNat:Int) &&& BitVec.ofInt 32 1).toNat:Int)==1)=x.getLsbD 0:=by
 rw[y3g,show BitVec.ofInt 32 1=1#32 by decide,w3w]
 have e:(x &&& 1#32).toNat=x.toNat % 2:=by
  rw[BitVec.toNat_and];exact Nat.and_one_is_mod x.toNat
 rw[e,← BitVec.testBit_toNat,Nat.testBit_zero]
 rcases Nat.mod_two_eq_zero_or_one x.toNat with h|h <;> rw[h] <;> decide
theorem w6b (x:W):st x=match x.getLsbD 0 with|true=>(x >>> 1) ^^^ poly|false=>x >>> 1:=by
 unfold st
 cases x.getLsbD 0 with
 |true=>rfl
 |false=>exact BitVec.xor_zero
theorem x9n (k:Nat)(n:W):stN (k+1) n=st (stN k n):=z3h k 1 n
def y2y (j:Nat):W:=stN 8 (BitVec.ofNat 32 j)
def w3x (N i:Nat):List PV:=(List.range i).map (fun j=>u32 (y2y j))++List.replicate (N - i) (u32 0)
def q9b (N i:Nat):List (List PV):=(w3x N i).map fun p=>[p]
theorem v4t {N i:Nat}(h:i<N):(w3x N i).set i (u32 (y2y i))=w3x N (i+1):=by
 unfold w3x
 rw[List.set_append_right _ _ (by simp),List.length_map,List.length_range,Nat.sub_self,show N - i=(N - (i+1))+1 by omega,List.replicate_succ,List.set_cons_zero,List.range_succ,List.map_append]
 simp
theorem v4u {N i:Nat}(h:i<N):(q9b N i).set i [u32 (y2y i)]=q9b N (i+1):=by
 unfold q9b;rw[← v4t h,List.map_set]
theorem v4v {N j:Nat}(h:j<N):(q9b N N)[j]?=some [u32 (y2y j)]:=by
 unfold q9b w3x
 rw[Nat.sub_self,List.replicate_zero,List.append_nil,List.getElem?_map,List.getElem?_map,List.getElem?_range h];rfl
theorem w8x {N i:Nat}(h:i<N):∃ x,(q9b N i)[i]?=some [x]:=by
 unfold q9b
 rw[List.getElem?_map,List.getElem?_eq_getElem (by simp[w3x];omega)]
 exact⟨_,rfl⟩
set_option maxRecDepth 20000 in
theorem v4w:AF Tryz.prog w3m [] [] (Q0 (.elr 0 1 0 0) [.row q1f 1 (q9b 256 256)]):=by
 refine u9 hT w3n rfl rfl w3p rfl ?_
 refine q8 (q7 hT ?_)
 refine q8 (q7 hT ?_)
 refine Q8 (Wk.trans (u0x 1 0 1 rfl) (u0w 0 (List.replicate 256 (u32 0)) rfl rfl rfl)) ?_
 obtain⟨N,hN⟩:∃ N:Nat,N=256:=⟨_,rfl⟩
 rw[← hN]
 refine q8 (q8 (q7 hT ?_))
 refine z7 ?_
 refine w7 (fun n s=>∃ (i:Nat) (j:Int),n+i=N∧j=i∧s=⟨⟨25,[(1,.elr 0 1 0 0),(5,i64 j)]⟩,[.row q1f 1 (q9b N i)]⟩) N ⟨⟨25,_⟩,[_]⟩ (q9 [0] [1,5] rfl) ⟨0,0,rfl,rfl,by unfold q9b w3x;rfl⟩ ?_
 rintro n s ⟨i,j,hni,rfl,rfl⟩
 refine q8 (q7 hT ?_)
 refine q8 (z6 (x7 (fun h=>?_) (fun h=>?_)))
 ·have hi:i<N:=by
   have:=of_decide_eq_true (show decide ((i:Int)<256)=true from h)
   omega
  refine z9 ?_
  refine y8 ⟨⟨25,[(1,.elr 0 1 0 0),(5,i64 i)]⟩,[.row q1f 1 (q9b N (i+1))]⟩ True (z7 ?_) (fun _=>?_)
  ·refine q8 (q7 hT ?_)
   refine q8 (q7 hT ?_)
   refine y8 ⟨⟨25,[(1,.elr 0 1 0 0),(2,i64 i),(3,.p (u32 (y2y i))),(5,i64 i)]⟩,[.row q1f 1 (q9b N i)]⟩ True (q8 (q7 hT ?_)) (fun _=>?_)
   ·refine z7 ?_
    refine w7 (fun n s=>∃ (k:Nat) (j v:Int),n+k=8∧j=k∧v=((stN k (BitVec.ofNat 32 i)).toNat:Int)∧s=⟨⟨25,[(1,.elr 0 1 0 0),(2,i64 i),(3,.p (.raw (.int .u32 v))),(5,i64 i),(10,i64 j)]⟩,[.row q1f 1 (q9b N i)]⟩) 8 ⟨⟨25,_⟩,[_]⟩ (q9 [0] [1,2,3,5,10] rfl) ⟨0,0,_,rfl,rfl,u7t i,rfl⟩ ?_
    rintro m s ⟨k,j,v,hmk,rfl,hv,rfl⟩
    refine q8 (q7 hT ?_)
    refine q8 (z6 (x7 (fun h=>?_) (fun h=>?_)))
    ·have hk:k<8:=by
      have:=of_decide_eq_true (show decide ((k:Int)<8)=true from h)
      omega
     refine z9 ?_
     refine y8 ⟨⟨25,[(1,.elr 0 1 0 0),(2,i64 i),(3,.p (u32 (stN (k+1) (BitVec.ofNat 32 i)))),(5,i64 i),(10,i64 k)]⟩,[.row q1f 1 (q9b N i)]⟩ True (z7 ?_) (fun _=>?_)
     ·rw[x9n,w6b]
      subst hv
      generalize stN k (BitVec.ofNat 32 i)=x
      refine q8 (q7 hT ?_)
      refine q8 (q7 hT ?_)
      refine q8 (q7 hT ?_)
      refine z6 (x7 (fun h=>?_) (fun h=>?_))
      ·have h:(IntKind.u32.wrap ((BitVec.ofInt 32 (x.toNat:Int) &&& BitVec.ofInt 32 1).toNat:Int)==1)=true:=h
       rw[v9i]at h
       refine q7 hT ?_
       rw[h]
       have e:(((x >>> 1) ^^^ poly).toNat:Int)=IntKind.u32.wrap ((BitVec.ofInt 32 ((x.toNat:Int).fdiv (2 ^ (min ((1:Nat):Int).toNat 32))) ^^^ BitVec.ofInt 32 2197175160).toNat:Int):=by
        rw[v4s x 1 (by omega),y3g,show BitVec.ofInt 32 2197175160=poly by decide,w3w]
       show Wk _ _ ⟨⟨25,[(1,_),(2,_),(3,.p (.raw (.int .u32 (((x >>> 1) ^^^ poly).toNat:Int)))),(5,_),(10,_)]⟩,_⟩∧True
       rw[e]
       exact⟨q9 [0] [1,2,3,5,10] rfl,trivial⟩
      ·have h:(IntKind.u32.wrap ((BitVec.ofInt 32 (x.toNat:Int) &&& BitVec.ofInt 32 1).toNat:Int)==1)=false:=h
       rw[v9i]at h
       refine z9 ?_
       rw[h]
       show Wk _ _ ⟨⟨25,[(1,_),(2,_),(3,.p (.raw (.int .u32 ((x >>> 1).toNat:Int)))),(5,_),(10,_)]⟩,_⟩∧True
       rw[← v4s x 1 (by omega)]
       exact⟨q9 [0] [1,2,3,5,10] rfl,trivial⟩
     ·refine q7 hT ?_
      refine⟨m - 1,by omega,_,q9 [0] [1,2,3,5,10] rfl,k+1,IntKind.i64.wrap ((k:Int)+1),_,by omega,?_,rfl,rfl⟩
      rw[x9 _ (by omega) (by omega)];rfl
    ·have hk:¬ (k:Int)<8:=of_decide_eq_false h
     have hk8:k=8:=by omega
     subst hk8 hv
     refine u0 ?_
     exact⟨q9 [0] [1,2,3,5] rfl,trivial⟩
   ·obtain⟨x0,hx0⟩:=w8x hi
    refine q7 hT ?_
    refine⟨⟨Int.natCast_nonneg _,by omega⟩,?_⟩
    have hx1:(q9b N i)[0+((i:Nat):Int).toNat]?=some [x0]:=by rw[Nat.zero_add,Int.toNat_natCast];exact hx0
    refine y3v rfl (u7 hx1 ?_)
    rw[show q9b N (i+1)=(q9b N i).set (0+((i:Nat):Int).toNat) [u32 (y2y i)] by rw[Nat.zero_add,Int.toNat_natCast,v4u hi]]
    exact⟨q9 [0] [1,5] rfl,trivial⟩
  ·refine q7 hT ?_
   refine⟨n - 1,by omega,_,q9 [0] [1,5] rfl,i+1,IntKind.i64.wrap ((i:Int)+1),by omega,?_,rfl⟩
   rw[x9 _ (by omega) (by omega)];rfl
 ·have hi:i=N:=by
   have:=of_decide_eq_false (show decide ((i:Int)<256)=false from h)
   omega
  subst hi
  refine u0 ?_
  refine q8 (q7 hT ?_)
  refine x6 ?_
  rw[hN]
  exact y9 [0] ⟨rfl,rfl⟩ rfl
end Go.Proofs.YtinfbclgkghgaaaGreat.AL
namespace Go.Proofs.YtinfbclgkghgaaaGreat.AL
open Go Go.Proofs Go.Proofs.YtinfbclgkghgaaaGreat.AL.Crc
theorem q4d (n:Nat):IntKind.u8.wrap (n:Int)=((UInt8.ofNat n).toNat:Int):=by
 rw[IntKind.wrap_u8,UInt8.toNat_ofNat'];omega
theorem v8a (x:W)(c:UInt8):IntKind.u8.wrap ((BitVec.ofInt 8 (IntKind.u8.wrap (x.toNat:Int)) ^^^ BitVec.ofInt 8 (c.toNat:Int)).toNat:Int)=((UInt8.ofNat x.toNat ^^^ c).toNat:Int):=by
 rw[q4d x.toNat,w3u]
theorem u1c (x:W):wd (UInt8.ofNat x.toNat)=x &&& 255#32:=by
 apply BitVec.eq_of_getLsbD_eq
 intro i hi
 unfold wd
 rw[BitVec.getLsbD_and,y6p,BitVec.getLsbD_ofNat,decide_eq_true hi,Bool.true_and,UInt8.toNat_ofNat',show 2 ^ 8=2 ^ 8 from rfl,Nat.testBit_mod_two_pow,BitVec.testBit_toNat,Bool.and_comm]
theorem v4x (x:W)(c:UInt8):z3y x c=y2y (UInt8.ofNat x.toNat ^^^ c).toNat ^^^ (x >>> 8):=by
 unfold z3y y2y
 rw[show BitVec.ofNat 32 (UInt8.ofNat x.toNat ^^^ c).toNat=wd (UInt8.ofNat x.toNat ^^^ c) from rfl,v4r,u1c,← v7w,← z7m]
 congr 1
 rw[BitVec.xor_assoc,BitVec.xor_comm (wd c),← BitVec.xor_assoc,BitVec.xor_comm x (x &&& 255#32),← BitVec.xor_assoc (x &&& 255#32),BitVec.xor_self,BitVec.zero_xor]
theorem x5a {l:y7}{i:Nat}{c:UInt8}(h:l[i]?=some c):(bx l)[i]?=some [u8 c]:=by rw[bx,List.getElem?_map,h];rfl
set_option maxRecDepth 20000 in
theorem v4y (l:y7)(hl:l.length≤1000000):AF Tryz.prog w3g [i64 0,bA l] [] (Q0 (i64 ((sum l).toNat:Int)) []):=by
 obtain⟨N,hN⟩:∃ N:Nat,N=256:=⟨_,rfl⟩
 have hm:=v4w
 rw[← hN]at hm
 refine u9 hT w3h rfl rfl w3i rfl ?_
 refine q8 (q7 hT ?_)
 refine q8 (q7 hT ?_)
 refine x8 hm ?_
 refine q8 (q7 hT ?_)
 refine y8 ⟨⟨34,[(6,.p (u32 (run all1 l)))]⟩,[]⟩ True (q8 (q7 hT ?_)) (fun _=>?_)
 ·refine z7 ?_
  refine w7 (fun n s=>∃ (i:Nat) (j v:Int),n+i=l.length∧j=i∧v=((run all1 (l.take i)).toNat:Int)∧s=⟨⟨34,[(5,.elr 0 1 0 0),(6,.p (.raw (.int .u32 v))),(13,bA l),(14,i64 l.length),(15,i64 j)]⟩,[.row q1f 1 (q9b N N)]⟩) l.length ⟨⟨34,_⟩,[_]⟩ (q9 [0] [5,6,13,14,15] rfl) ⟨0,0,_,rfl,rfl,(by decide:IntKind.u32.wrap ((BitVec.ofInt 32 (IntKind.u32.wrap 0) ^^^ BitVec.ofInt 32 4294967295).toNat:Int)=(all1.toNat:Int)),by rw[← u6 l];rfl⟩ ?_
  rintro n s ⟨i,j,v,hni,rfl,hv,rfl⟩
  refine q8 (q7 hT ?_)
  refine q8 (z6 (x7 (fun h=>?_) (fun h=>?_)))
  ·have hi:i<l.length:=by
    have:=of_decide_eq_true (show decide ((i:Int)<(l.length:Int))=true from h)
    omega
   have hx:=List.getElem?_eq_getElem hi
   have htk:l.take (i+1)=l.take i++[l[i]]:=by rw[List.take_add_one,hx];rfl
   generalize l[i]=c at hx htk
   have hxp:(bx l)[((i:Nat):Int).toNat]?=some [u8 c]:=by rw[Int.toNat_natCast];exact x5a hx
   have hrun:run all1 (l.take (i+1))=z3y (run all1 (l.take i)) c:=by rw[htk,x9k]
   subst hv
   generalize run all1 (l.take i)=x at hrun
   refine z9 ?_
   refine y8 ⟨⟨34,[(5,.elr 0 1 0 0),(6,.p (u32 (run all1 (l.take (i+1))))),(13,bA l),(14,i64 l.length),(15,i64 i)]⟩,[.row q1f 1 (q9b N N)]⟩ True (z7 (q8 (q7 hT ?_))) (fun _=>?_)
   ·refine⟨Int.natCast_nonneg _,u7 hxp ?_⟩
    refine q7 hT ?_
    have hy:=v8a x c
    have hyl:(UInt8.ofNat x.toNat ^^^ c).toNat<256:=UInt8.toNat_lt _
    rw[hrun,v4x]
    generalize UInt8.ofNat x.toNat ^^^ c=y at hy hyl
    refine⟨?_,?_⟩
    ·show 0≤IntKind.u8.wrap ((BitVec.ofInt 8 (IntKind.u8.wrap (x.toNat:Int)) ^^^ BitVec.ofInt 8 (c.toNat:Int)).toNat:Int)∧IntKind.u8.wrap ((BitVec.ofInt 8 (IntKind.u8.wrap (x.toNat:Int)) ^^^ BitVec.ofInt 8 (c.toNat:Int)).toNat:Int)<((256:Nat):Int)
     rw[hy];omega
    have hg:(q9b N N)[0+(IntKind.u8.wrap ((BitVec.ofInt 8 (IntKind.u8.wrap (x.toNat:Int)) ^^^ BitVec.ofInt 8 (c.toNat:Int)).toNat:Int)).toNat]?=some [u32 (y2y y.toNat)]:=by
     rw[hy,Nat.zero_add,Int.toNat_natCast];exact v4v (by omega)
    refine y3v rfl (u7 hg ?_)
    have e:(((y2y y.toNat) ^^^ (x >>> 8)).toNat:Int)=IntKind.u32.wrap ((BitVec.ofInt 32 ((y2y y.toNat).toNat:Int) ^^^ BitVec.ofInt 32 ((x.toNat:Int).fdiv (2 ^ (min ((8:Nat):Int).toNat 32)))).toNat:Int):=by
     rw[v4s x 8 (by omega),v9h]
    show Wk _ _ ⟨⟨34,[(5,_),(6,.p (.raw (.int .u32 (((y2y y.toNat) ^^^ (x >>> 8)).toNat:Int)))),(13,_),(14,_),(15,_)]⟩,_⟩∧True
    rw[e]
    exact⟨q9 [0] [5,6,13,14,15] rfl,trivial⟩
   ·refine q7 hT ?_
    refine⟨n - 1,by omega,_,q9 [0] [5,6,13,14,15] rfl,i+1,IntKind.i64.wrap ((i:Int)+1),_,by omega,?_,rfl,rfl⟩
    rw[x9 _ (by omega) (by omega)];rfl
  ·have hi:¬ (i:Int)<(l.length:Int):=of_decide_eq_false h
   have hil:i=l.length:=by omega
   subst hil hv
   rw[List.take_length]
   refine u0 ?_
   exact⟨q9 [] [6] rfl,trivial⟩
 ·refine q8 (q7 hT ?_)
  refine x6 ?_
  refine y9 [] ⟨?_,rfl⟩ rfl
  show AV.p (.raw (.int .i64 (IntKind.i64.wrap (IntKind.u32.wrap ((BitVec.ofInt 32 ((run all1 l).toNat:Int) ^^^ BitVec.ofInt 32 4294967295).toNat:Int)))))=_
  rw[show (4294967295:Int)=(all1.toNat:Int) by decide,v9h]
  have:=(run all1 l ^^^ all1).isLt
  rw[x9 _ (by omega) (by omega)]
  rfl
theorem w6c (l:y7)(hl:l.length≤1000000):AF Tryz.prog x0v [bA l] [] (Q0 (i64 ((sum l).toNat:Int)) []):=by
 refine u9 hT w8j rfl rfl w8k rfl ?_
 refine q8 (q7 hT ?_)
 refine q8 (q7 hT ?_)
 refine x8 (v4y l hl) ?_
 refine x6 ?_
 exact y9 [] ⟨rfl,rfl⟩ rfl
end Go.Proofs.YtinfbclgkghgaaaGreat.AL
namespace Go.Proofs.YtinfbclgkghgaaaGreat.AL
open Go Go.Proofs
abbrev fC (E:List UInt8)(G:List Int):List AV:=(E.map fun b=>AV.p (u8 b))++(G.map fun n=>i64 n)++[bl true]
theorem y6r {α:Type}:∀ (l:List α) (n:Nat) (v:α),n<l.length→W4 l n [v]=l.set n v
 |[],n,v,h=>by simp at h
 |x :: l,0,v,_=>rfl
 |x :: l,n+1,v,h=>by
  have:=y6r l n v (by simpa using h)
  unfold W4 at this ⊢
  simp only[List.take_succ_cons,List.cons_append,List.set_cons_succ,List.length_singleton]at this ⊢
  rw[show n+1+1=(n+1)+1 from rfl,List.drop_succ_cons,this]
theorem v4z {E:List UInt8}{G:List Int}{n:Nat}(h:n<E.length)(a:UInt8):W4 (fC E G) n [.p (u8 a)]=fC (E.set n a) G:=by
 rw[y6r _ _ _ (by simp[fC];omega)]
 unfold fC
 rw[List.append_assoc,List.set_append_left _ _ (by rw[List.length_map];exact h),List.map_set,List.append_assoc]
theorem u1d {E:List UInt8}{G:List Int}{n:Nat}(hE:E.length=510)(h:n<G.length)(v:Int):W4 (fC E G) (510+n) [i64 v]=fC E (G.set n v):=by
 rw[y6r _ _ _ (by simp[fC];omega)]
 unfold fC
 rw[List.append_assoc,List.set_append_right _ _ (by rw[List.length_map];omega),List.length_map,hE,Nat.add_sub_cancel_left,List.set_append_left _ _ (by rw[List.length_map];exact h),List.map_set,List.append_assoc]
set_option maxHeartbeats 1000000 in
set_option maxRecDepth 20000 in
theorem v5a (E:List UInt8)(G:List Int)(hE:E.length=510)(hG:G.length=256)(n:Int)(n0:0≤n)(n1:n<255)(a:UInt8) :
 AFm Tryz.prog 2 z4y [i64 n,.p (u8 a),.ref 1 0] [.cells q6y (fC E G),.cells 199 [.ref 0 0]] (Q0 (.tup []) [.cells q6y (fC ((E.set n.toNat a).set (n.toNat+255) a) (G.set a.toNat n)),.cells 199 [.ref 0 0]]):=by
 have hl:(fC E G).length=767:=by simp[fC,hE,hG]
 generalize hL:fC E G=L at hl
 refine Q9 2 hT w3j rfl rfl w3k rfl rfl ?_
 refine q8 ?_
 refine w9 [10,14] [] hT z8 (by rfl) ?_
 refine⟨⟨n0,by omega⟩,?_⟩
 have hw:IntKind.i64.wrap (n+255)=n+255:=x9 _ (by omega) (by omega)
 refine y3v (decide_eq_true (by show 0+0+n.toNat*1+1≤L.length;omega)) ?_
 repeat refine q0f ?_
 rw[hw]
 refine⟨⟨by omega,by show n+255<510;omega⟩,?_⟩
 have hl1:∀ v:AV,(W4 L (0+0+n.toNat*1) [v]).length=767:=fun v=>by rw[W3 (by rw[hl];show 0+0+n.toNat*1+1≤767;omega),hl]
 refine y3v (decide_eq_true (by show 0+0+(n+255).toNat*1+1≤(W4 L (0+0+n.toNat*1) [_]).length;rw[hl1];omega)) ?_
 repeat refine q0f ?_
 repeat first|refine⟨rfl,?_⟩|refine⟨⟨⟨by omega,by show n+255<510;omega⟩,rfl⟩,?_⟩|refine⟨⟨⟨n0,by omega⟩,rfl⟩,?_⟩|refine q0f ?_
 refine q7 hT ?_
 repeat refine q0f ?_
 have ha:=a.toNat_lt
 refine⟨⟨by omega,by show ((a.toNat:Nat):Int)<256;omega⟩,?_⟩
 repeat refine q0f ?_
 refine y3v (decide_eq_true (by show 0+510+((a.toNat:Nat):Int).toNat*1+1≤(W4 (W4 L (0+0+n.toNat*1) [.p (u8 a)]) (0+0+(n+255).toNat*1) [.p (u8 a)]).length;rw[W3 (by rw[hl1];show 0+0+(n+255).toNat*1+1≤767;omega),hl1];omega)) ?_
 repeat refine q0f ?_
 refine w5y ⟨rfl,?_⟩
 show [ABlk.cells q6y (W4 (W4 (W4 L (0+0+n.toNat*1) [.p (u8 a)]) (0+0+(n+255).toNat*1) [.p (u8 a)]) (0+510+((a.toNat:Nat):Int).toNat*1) [i64 n]),.cells 199 [.ref 0 0]]=_
 rw[← hL,show 0+0+n.toNat*1=n.toNat by omega,show 0+0+(n+255).toNat*1=n.toNat+255 by omega,show 0+510+((a.toNat:Nat):Int).toNat*1=510+a.toNat by omega]
 rw[v4z (by omega),v4z (by rw[List.length_set];omega),u1d (by rw[List.length_set,List.length_set];exact hE) (by omega)]
open Gf in
def stT:Nat→List UInt8 × List Int
 |0=>(List.replicate 510 0,List.replicate 256 0)
 |k+1=>(((stT k).1.set k (pw k)).set (k+255) (pw k),(stT k).2.set (pw k).toNat k)
theorem z0i:∀ k,(stT k).1.length=510∧(stT k).2.length=256
 |0=>⟨List.length_replicate,List.length_replicate⟩
 |k+1=>by
  obtain⟨h1,h2⟩:=z0i k
  exact⟨by rw[stT,List.length_set,List.length_set,h1],by rw[stT,List.length_set,h2]⟩
abbrev w8y:AV:=.clo (.func z4y) [.ref 1 0]
def LF (k:Nat):List AV:=fC (stT k).1 (stT k).2
abbrev fH (L:Nat→List AV)(k:Nat):List ABlk:=[.cells q6y (L k),.cells 199 [.ref 0 0]]
set_option maxHeartbeats 1000000 in
set_option maxRecDepth 20000 in
theorem w8z:AFm Tryz.prog 2 x9b [w8y] (fH LF 0) (Q0 (.tup []) (fH LF 255)):=by
 refine Q9 2 hT x9c rfl rfl x9d rfl rfl ?_
 obtain⟨N,hN⟩:∃ N:Nat,N=255:=⟨_,rfl⟩
 have hfin:fH LF 255=fH LF N:=by rw[hN]
 rw[hfin]
 clear hfin
 have step:∀ k:Nat,k<255→AFm Tryz.prog 2 z4y [i64 k,.p (u8 (Gf.pw k)),.ref 1 0] (fH LF k) (Q0 (.tup []) (fH LF (k+1))):=fun k hk=>by
  obtain⟨h1,h2⟩:=z0i k
  have:=v5a (stT k).1 (stT k).2 h1 h2 k (by omega) (by omega) (Gf.pw k)
  rw[Int.toNat_natCast]at this
  exact this
 generalize LF=L at step ⊢
 refine y8 ⟨⟨19,[(0,w8y),(2,i64 1)]⟩,fH L 0⟩ True (q7 hT ?_) (fun _=>?_)
 ·repeat refine q0f ?_
  exact⟨z7k [0,2],trivial⟩
 refine q8 (q7 hT ?_)
 repeat refine q0f ?_
 refine z7 ?_
 refine w7 (fun n s=>∃ (k:Nat) (j a:Int),n+k=N∧j=k∧a=((Gf.pw k).toNat:Int)∧s=⟨⟨19,[(0,w8y),(2,i64 a),(4,i64 j)]⟩,fH L k⟩) N ⟨⟨19,_⟩,_⟩ (z7k [0,2,4]) ⟨0,0,1,by omega,rfl,rfl,rfl⟩ ?_
 rintro n s ⟨k,j,a,hnk,hj,ha,rfl⟩
 have hb:=(Gf.pw k).toNat_lt
 refine q8 (q7 hT ?_)
 repeat refine q0f ?_
 refine q8 (z6 (x7 (fun h=>?_) (fun h=>?_)))
 ·have h:=of_decide_eq_true (show decide (j<255)=true from h)
  have hk:k<255:=by omega
  refine z9 ?_
  have w:=step k hk
  have hu:(.p (.raw (.int .u8 (IntKind.u8.wrap a))):AV)=.p (u8 (Gf.pw k)):=by rw[ha,q4d,UInt8.ofNat_toNat]
  rw[← hu,← hj]at w
  have hwr:IntKind.i64.wrap (a*2 ^ (min (1:Int).toNat 64))=a*2:=by
   show IntKind.i64.wrap (a*2 ^ 1)=a*2
   rw[x9 _ (by omega) (by omega)];omega
  have hnx:=Gf.next_pw (Gf.pw k)
  have hpw:Gf.pw (k+1)=Gf.xt (Gf.pw k):=rfl
  refine w6 (fun st=>∃ x,x=(((Gf.pw (k+1)).toNat:Nat):Int)∧st=⟨⟨19,[(0,w8y),(2,i64 x),(4,i64 j)]⟩,fH L (k+1)⟩) (z7 (q8 (q7 hT ?_))) ?_
  ·repeat refine q0f ?_
   refine y8 ⟨⟨19,[(0,w8y),(2,i64 a),(4,i64 j)]⟩,fH L (k+1)⟩ True (q7 hT ?_) (fun _=>?_)
   ·repeat refine q0f ?_
    refine x8 w ?_
    repeat refine q0f ?_
    exact⟨z7k [0,2,4],trivial⟩
   refine w6 (fun st=>∃ x,x=a*2∧st=⟨⟨19,[(0,w8y),(2,i64 x),(4,i64 j)]⟩,fH L (k+1)⟩) (q7 hT ?_) ?_
   ·repeat refine q0f ?_
    exact⟨_,z7k [0,2,4],_,hwr,rfl⟩
   rintro _ ⟨x,hx,rfl⟩
   refine q8 (q7 hT ?_)
   repeat refine q0f ?_
   refine z6 (x7 (fun h=>?_) (fun h=>?_))
   ·have h:=of_decide_eq_true (show decide (x > 255)=true from h)
    rw[if_pos (by omega)]at hnx
    refine q7 hT ?_
    repeat refine q0f ?_
    refine⟨_,z7k [0,2,4],_,?_,rfl⟩
    show IntKind.i64.wrap ((BitVec.ofInt 64 x ^^^ BitVec.ofInt 64 285).toNat:Int)=((Gf.pw (k+1)).toNat:Int)
    have e1:BitVec.ofInt 64 x=BitVec.ofNat 64 ((Gf.pw k).toNat*2):=by
     rw[hx,ha,show (((Gf.pw k).toNat:Nat):Int)*2=(((Gf.pw k).toNat*2:Nat):Int) by omega];rfl
    have e2:(BitVec.ofInt 64 x ^^^ BitVec.ofInt 64 285).toNat=(Gf.xt (Gf.pw k)).toNat:=by rw[e1,← hnx];rfl
    have hb2:=(Gf.xt (Gf.pw k)).toNat_lt
    rw[e2,hpw,x9 _ (by omega) (by omega)]
   ·have h:=of_decide_eq_false (show decide (x > 255)=false from h)
    rw[if_neg (by omega)]at hnx
    refine z9 ⟨_,z7k [0,2,4],_,?_,rfl⟩
    rw[hpw,← hnx,hx,ha];omega
  ·rintro _ ⟨x,hx,rfl⟩
   refine q7 hT ?_
   repeat refine q0f ?_
   exact⟨n - 1,by omega,_,z7k [0,2,4],k+1,IntKind.i64.wrap (j+1),x,by omega,by rw[x9 _ (by omega) (by omega)];omega,hx,rfl⟩
 ·have h:=of_decide_eq_false (show decide (j<255)=false from h)
  refine u0 ?_
  rw[show k=N by omega]
  exact w5y ⟨rfl,rfl⟩
def fP:List PV:=((stT 255).1.map fun b=>u8 b)++((stT 255).2.map fun n=>.raw (.int .i64 n))++[.raw (.bool true)]
set_option maxHeartbeats 1000000 in
set_option maxRecDepth 20000 in
theorem q3e:AF Tryz.prog v3w [] [] (Q0 (.p (.box fP)) []):=by
 refine u9 hT v3x rfl rfl v3y rfl ?_
 refine q8 (q7 hT ?_)
 have hf:LF 255=fP.map .p:=by unfold LF fC fP;simp;rfl
 have w:=w8z
 refine w6 (fun st=>∃ X,X=LF 0∧st=⟨⟨7,[(1,.ref 1 0)]⟩,[.cells q6y X,.cells 199 [.ref 0 0]]⟩) (q7 hT ?_) ?_
 ·exact⟨_,z7k [1],_,rfl,rfl⟩
 rintro _ ⟨X,hX,rfl⟩
 generalize LF=L at w hX hf
 generalize fP=F at hf ⊢
 subst hX
 refine y8 ⟨⟨7,[(1,.ref 1 0)]⟩,fH L 255⟩ True (q7 hT ?_) (fun _=>?_)
 ·repeat refine q0f ?_
  refine x8 w ?_
  repeat refine q0f ?_
  exact⟨z7k [1],trivial⟩
 refine q8 (q7 hT ?_)
 repeat refine q0f ?_
 refine Q8 (Q6 0 F rfl hf) ?_
 refine x6 ?_
 exact y9 [] ⟨rfl,rfl⟩ rfl
end Go.Proofs.YtinfbclgkghgaaaGreat.AL
namespace Go.Proofs.YtinfbclgkghgaaaGreat.AL
def q5p (a b:Nat):Nat→Nat
 |0=>0
 |k+1=>match a / 2 ^ k % 2 != b / 2 ^ k % 2 with
  |true=>q5p a b k+2 ^ k
  |false=>q5p a b k
theorem v8b (a b k:Nat):(a ^^^ b) / 2 ^ k % 2=if (a / 2 ^ k % 2 != b / 2 ^ k % 2)=true then 1 else 0:=by
 have h:=Nat.testBit_xor (x:=a) (y:=b) (i:=k)
 rw[Nat.testBit_eq_decide_div_mod_eq,Nat.testBit_eq_decide_div_mod_eq,Nat.testBit_eq_decide_div_mod_eq]at h
 have h1:(a ^^^ b) / 2 ^ k % 2<2:=Nat.mod_lt _ (by omega)
 have h2:a / 2 ^ k % 2<2:=Nat.mod_lt _ (by omega)
 have h3:b / 2 ^ k % 2<2:=Nat.mod_lt _ (by omega)
 generalize (a ^^^ b) / 2 ^ k % 2=x at *
 generalize a / 2 ^ k % 2=y at *
 generalize b / 2 ^ k % 2=z at *
 have hx:x=0∨x=1:=by omega
 have hy:y=0∨y=1:=by omega
 have hz:z=0∨z=1:=by omega
 rcases hx with rfl|rfl <;> rcases hy with rfl|rfl <;> rcases hz with rfl|rfl <;> simp at h ⊢
theorem y6s (a b:Nat):∀ k,q5p a b k=(a ^^^ b) % 2 ^ k
 |0=>by rw[Nat.pow_zero,Nat.mod_one];rfl
 |k+1=>by
  have ih:=y6s a b k
  rw[Nat.mod_pow_succ,v8b]
  unfold q5p
  cases h:(a / 2 ^ k % 2 != b / 2 ^ k % 2) with
  |true=>simp only[ih,if_true,Nat.mul_one]
  |false=>simp only[ih,Bool.false_eq_true,if_false,Nat.mul_zero,Nat.add_zero]
theorem v5b (a b k:Nat):q5p a b k<2 ^ k:=by rw[y6s];exact Nat.mod_lt _ (Nat.two_pow_pos k)
end Go.Proofs.YtinfbclgkghgaaaGreat.AL
namespace Go.Proofs.YtinfbclgkghgaaaGreat.AL
open Go Go.Proofs Go.Proofs.YtinfbclgkghgaaaGreat.AL.Crc
set_option maxRecDepth 8000 in
theorem y9t (a b:Nat)(ha:a<4294967296)(hb:b<4294967296):AF Tryz.prog q4a [i64 a,i64 b] [] (Q0 (i64 (a ^^^ b:Nat)) []):=by
 refine u9 hT y5e rfl rfl y5f rfl ?_
 refine q8 (q7 hT ?_)
 refine q8 (q7 hT ?_)
 refine q8 (q7 hT ?_)
 refine q8 (q8 (q7 hT ?_))
 refine z7 ?_
 refine w7 (fun n s=>∃ (k:Nat) (k':Int) (d p x y:Int),n+k=32∧k'=k∧d=q5p a b k∧p=((2 ^ k:Nat):Int)∧x=((a / 2 ^ k:Nat):Int)∧y=((b / 2 ^ k:Nat):Int)∧s=⟨⟨27,[(0,i64 x),(1,i64 y),(5,i64 d),(6,i64 p),(7,i64 k')]⟩,[]⟩) 32 ⟨⟨27,_⟩,[]⟩ (q9 [] [0,1,5,6,7] rfl) ⟨0,0,0,1,_,_,rfl,rfl,rfl,rfl,?_,?_,rfl⟩ ?_
 ·rw[Nat.pow_zero,Nat.div_one]
 ·rw[Nat.pow_zero,Nat.div_one]
 rintro n s ⟨k,k',d,p,x,y,hk,rfl,rfl,rfl,rfl,rfl,rfl⟩
 have hd:=v5b a b k
 have hm:∀ q:Nat,((q:Int).tmod 2)=((q % 2:Nat):Int):=fun q=>by
  rw[Int.tmod_eq_emod_of_nonneg (Int.natCast_nonneg _)];exact(Int.natCast_emod q 2).symm
 have hq:∀ q:Nat,q<4294967296→IntKind.i64.wrap ((q:Int).tdiv 2)=((q / 2:Nat):Int):=fun q hq=>by
  rw[Int.tdiv_eq_ediv_of_nonneg (Int.natCast_nonneg _),x9 _ (by omega) (by omega)];omega
 refine q8 (q8 (q7 hT ?_))
 refine z6 (x7 (fun h=>?_) (fun h=>?_))
 ·have hk32:k<32:=by
   have:=of_decide_eq_true (show decide ((k:Int)<32)=true from h)
   omega
  have hp:2 ^ k≤2 ^ 31:=Nat.pow_le_pow_right (by omega) (by omega)
  have hp2:2 ^ (k+1)=2 ^ k*2:=Nat.pow_succ ..
  have hdx:a / 2 ^ k<4294967296:=Nat.lt_of_le_of_lt (Nat.div_le_self _ _) ha
  have hdy:b / 2 ^ k<4294967296:=Nat.lt_of_le_of_lt (Nat.div_le_self _ _) hb
  have hx2:a / 2 ^ (k+1)=a / 2 ^ k / 2:=by rw[hp2,Nat.div_div_eq_div_mul]
  have hy2:b / 2 ^ (k+1)=b / 2 ^ k / 2:=by rw[hp2,Nat.div_div_eq_div_mul]
  refine z9 ?_
  refine y8 ⟨⟨27,[(0,i64 ((a / 2 ^ (k+1):Nat):Int)),(1,i64 ((b / 2 ^ (k+1):Nat):Int)),(5,i64 (q5p a b (k+1):Nat)),(6,i64 ((2 ^ (k+1):Nat):Int)),(7,i64 (k:Nat))]⟩,[]⟩ True (z7 ?_) (fun _=>?_)
  ·refine y8 ⟨⟨27,[(0,i64 ((a / 2 ^ k:Nat):Int)),(1,i64 ((b / 2 ^ k:Nat):Int)),(5,i64 (q5p a b (k+1):Nat)),(6,i64 ((2 ^ k:Nat):Int)),(7,i64 (k:Nat))]⟩,[]⟩ True (q8 (q7 hT ?_)) (fun _=>?_)
   ·refine z6 (x7 (fun h1=>?_) (fun h1=>?_))
    ·have h1:(((a / 2 ^ k:Nat):Int).tmod 2 != ((b / 2 ^ k:Nat):Int).tmod 2)=true:=h1
     rw[hm,hm]at h1
     have h2:(a / 2 ^ k % 2 != b / 2 ^ k % 2)=true:=by
      rw[bne_iff_ne]at h1 ⊢;omega
     have e:q5p a b (k+1)=q5p a b k+2 ^ k:=by
      conv=>lhs;unfold q5p
      rw[h2]
     refine q7 hT ?_
     have e2:IntKind.i64.wrap (((q5p a b k:Nat):Int)+((2 ^ k:Nat):Int))=((q5p a b (k+1):Nat):Int):=by
      rw[e,x9 _ (by omega) (by omega)];omega
     rw[← e2]
     exact⟨q9 [] [0,1,5,6,7] rfl,trivial⟩
    ·have h1:(((a / 2 ^ k:Nat):Int).tmod 2 != ((b / 2 ^ k:Nat):Int).tmod 2)=false:=h1
     rw[hm,hm]at h1
     have h2:(a / 2 ^ k % 2 != b / 2 ^ k % 2)=false:=by
      rw[bne_eq_false_iff_eq]at h1 ⊢;omega
     have e:q5p a b (k+1)=q5p a b k:=by
      conv=>lhs;unfold q5p
      rw[h2]
     rw[e]
     exact z9 ⟨q9 [] [0,1,5,6,7] rfl,trivial⟩
   ·refine q8 (q7 hT ?_)
    refine q8 (q7 hT ?_)
    refine q7 hT ?_
    have e3:IntKind.i64.wrap (((2 ^ k:Nat):Int)*2)=((2 ^ (k+1):Nat):Int):=by
     rw[hp2,x9 _ (by omega) (by omega)];omega
    rw[hx2,hy2,← hq _ hdx,← hq _ hdy,← e3]
    exact⟨q9 [] [0,1,5,6,7] rfl,trivial⟩
  ·refine q7 hT ?_
   refine⟨n - 1,by omega,_,q9 [] [0,1,5,6,7] rfl,k+1,IntKind.i64.wrap ((k:Int)+1),_,_,_,_,by omega,?_,rfl,rfl,rfl,rfl,rfl⟩
   rw[x9 _ (by omega) (by omega)];rfl
 ·have hk32:k=32:=by
   have:=of_decide_eq_false (show decide ((k:Int)<32)=false from h)
   omega
  subst hk32
  refine u0 ?_
  refine q8 (q7 hT ?_)
  refine x6 ?_
  have e:q5p a b 32=(a ^^^ b:Nat):=by
   rw[y6s]
   exact Nat.mod_eq_of_lt (Nat.xor_lt_two_pow (show a<2 ^ 32 from ha) (show b<2 ^ 32 from hb))
  rw[← e]
  exact y9 [] ⟨rfl,rfl⟩ rfl
theorem z7n (x y:W):AF Tryz.prog q4a [i64 (x.toNat:Int),i64 (y.toNat:Int)] [] (Q0 (i64 ((x ^^^ y).toNat:Int)) []):=by
 have:=y9t x.toNat y.toNat x.isLt y.isLt
 rw[BitVec.toNat_xor];exact this
end Go.Proofs.YtinfbclgkghgaaaGreat.AL
namespace Go.Proofs.YtinfbclgkghgaaaGreat.AL
open Go Go.Proofs Go.Proofs.YtinfbclgkghgaaaGreat.AL.Crc
theorem x9p (q k:Nat):((q:Int).tmod (k:Int))=((q % k:Nat):Int):=by
 rw[Int.tmod_eq_emod_of_nonneg (Int.natCast_nonneg _)];exact(Int.natCast_emod q k).symm
theorem y6t (q k:Nat)(hq:q<9223372036854775808):IntKind.i64.wrap ((q:Int).tdiv (k:Int))=((q / k:Nat):Int):=by
 rw[Int.tdiv_eq_ediv_of_nonneg (Int.natCast_nonneg _),← Int.natCast_ediv]
 have:q / k≤q:=Nat.div_le_self _ _
 generalize q / k=r at this
 exact x9 _ (by omega) (by omega)
theorem v5c (c:UInt8):(wd c).toNat=c.toNat:=by
 unfold wd
 rw[BitVec.toNat_ofNat,Nat.mod_eq_of_lt (Nat.lt_trans c.toNat_lt (by decide))]
theorem v5d (x:W):IntKind.i64.wrap ((x.toNat:Int).tdiv 2)=((x >>> 1).toNat:Int):=by
 have:=x.isLt
 rw[show (2:Int)=((2:Nat):Int) from rfl,y6t _ _ (by omega),BitVec.toNat_ushiftRight,Nat.shiftRight_eq_div_pow]
theorem v9j (x:W):((x.toNat:Int).tmod 2==1)=x.getLsbD 0:=by
 rw[show (2:Int)=((2:Nat):Int) from rfl,x9p,← BitVec.testBit_toNat,Nat.testBit_zero]
 rcases Nat.mod_two_eq_zero_or_one x.toNat with h|h <;> rw[h] <;> decide
set_option maxRecDepth 8000 in
theorem w9a (l:y7)(hl:l.length≤1000000):AF Tryz.prog x8a [bA l] [] (Q0 (i64 ((sum l).toNat:Int)) []):=by
 refine u9 hT x8b rfl rfl x8c rfl ?_
 refine q8 (q7 hT ?_)
 refine q8 (q7 hT ?_)
 refine y8 ⟨⟨34,[(3,i64 ((run all1 l).toNat:Int))]⟩,[]⟩ True (q8 (q7 hT ?_)) (fun _=>?_)
 ·refine z7 ?_
  refine w7 (fun n s=>∃ (i:Nat) (j v:Int),n+i=l.length∧j=i∧v=((run all1 (l.take i)).toNat:Int)∧s=⟨⟨34,[(0,bA l),(3,i64 v),(4,i64 j)]⟩,[]⟩) l.length ⟨⟨34,_⟩,[]⟩ (q9 [] [0,3,4] rfl) ⟨0,0,_,rfl,rfl,(by decide:(4294967295:Int)=(all1.toNat:Int)),rfl⟩ ?_
  rintro n s ⟨i,j,v,hni,rfl,hv,rfl⟩
  refine q8 (q8 (q7 hT ?_))
  refine z6 (x7 (fun h=>?_) (fun h=>?_))
  ·have hi:i<l.length:=by
    have:=of_decide_eq_true (show decide ((i:Int)<((bx l).length:Int))=true from h)
    rw[u6]at this;omega
   have hx:=List.getElem?_eq_getElem hi
   have htk:l.take (i+1)=l.take i++[l[i]]:=by rw[List.take_add_one,hx];rfl
   generalize l[i]=c at hx htk
   have hxp:(bx l)[((i:Nat):Int).toNat]?=some [u8 c]:=by rw[Int.toNat_natCast];exact x5a hx
   have hrun:run all1 (l.take (i+1))=stN 8 (run all1 (l.take i) ^^^ wd c):=by rw[htk,x9k];rfl
   subst hv
   generalize run all1 (l.take i)=x at hrun
   have w:AF Tryz.prog q4a [i64 (x.toNat:Int),i64 (IntKind.i64.wrap (c.toNat:Int))] [] (Q0 (i64 ((x ^^^ wd c).toNat:Int)) []):=by
    have hc:=c.toNat_lt
    rw[x9 _ (by omega) (by omega),← v5c];exact z7n x (wd c)
   refine z9 ?_
   refine y8 ⟨⟨34,[(0,bA l),(3,i64 ((run all1 (l.take (i+1))).toNat:Int)),(4,i64 i)]⟩,[]⟩ True (z7 (q8 (q7 hT ?_))) (fun _=>?_)
   ·rw[hrun]
    refine⟨Int.natCast_nonneg _,u7 hxp ?_⟩
    refine x8 w ?_
    generalize x ^^^ wd c=z
    refine q8 (q7 hT ?_)
    refine z7 ?_
    refine w7 (fun n s=>∃ (k:Nat) (j v:Int),n+k=8∧j=k∧v=((stN k z).toNat:Int)∧s=⟨⟨34,[(0,bA l),(3,i64 v),(4,i64 i),(5,i64 j)]⟩,[]⟩) 8 ⟨⟨34,_⟩,[]⟩ (q9 [] [0,3,4,5] rfl) ⟨0,0,_,rfl,rfl,rfl,rfl⟩ ?_
    rintro m s ⟨k,j,v,hmk,rfl,hv,rfl⟩
    refine q8 (q8 (q7 hT ?_))
    refine z6 (x7 (fun h=>?_) (fun h=>?_))
    ·have hk:k<8:=by
      have:=of_decide_eq_true (show decide ((k:Int)<8)=true from h)
      omega
     refine z9 ?_
     refine y8 ⟨⟨34,[(0,bA l),(3,i64 ((stN (k+1) z).toNat:Int)),(4,i64 i),(5,i64 k)]⟩,[]⟩ True (z7 ?_) (fun _=>?_)
     ·rw[x9n,w6b]
      subst hv
      generalize stN k z=x
      refine q8 (q7 hT ?_)
      refine q8 (q7 hT ?_)
      refine q8 (q7 hT ?_)
      refine z6 (x7 (fun h=>?_) (fun h=>?_))
      ·have h:((x.toNat:Int).tmod 2==1)=true:=h
       rw[v9j]at h
       have w2:AF Tryz.prog q4a [i64 (IntKind.i64.wrap ((x.toNat:Int).tdiv 2)),i64 2197175160] [] (Q0 (i64 (((x >>> 1) ^^^ poly).toNat:Int)) []):=by
        rw[v5d,show (2197175160:Int)=(poly.toNat:Int) by decide];exact z7n _ poly
       refine q7 hT ?_
       refine x8 w2 ?_
       rw[h]
       exact⟨q9 [] [0,3,4,5] rfl,trivial⟩
      ·have h:((x.toNat:Int).tmod 2==1)=false:=h
       rw[v9j]at h
       refine z9 ?_
       rw[h]
       show Wk _ _ ⟨⟨34,[(0,_),(3,i64 ((x >>> 1).toNat:Int)),(4,_),(5,_)]⟩,_⟩∧True
       rw[← v5d]
       exact⟨q9 [] [0,3,4,5] rfl,trivial⟩
     ·refine q7 hT ?_
      refine⟨m - 1,by omega,_,q9 [] [0,3,4,5] rfl,k+1,IntKind.i64.wrap ((k:Int)+1),_,by omega,?_,rfl,rfl⟩
      rw[x9 _ (by omega) (by omega)];rfl
    ·have hk:¬ (k:Int)<8:=of_decide_eq_false h
     have hk8:k=8:=by omega
     subst hk8 hv
     refine u0 ?_
     exact⟨q9 [] [0,3,4] rfl,trivial⟩
   ·refine q7 hT ?_
    refine⟨n - 1,by omega,_,q9 [] [0,3,4] rfl,i+1,IntKind.i64.wrap ((i:Int)+1),_,by omega,?_,rfl,rfl⟩
    rw[x9 _ (by omega) (by omega)];rfl
  ·have hi:¬ (i:Int)<((bx l).length:Int):=of_decide_eq_false h
   rw[u6]at hi
   have hil:i=l.length:=by omega
   subst hil hv
   rw[List.take_length]
   refine u0 ?_
   exact⟨q9 [] [3] rfl,trivial⟩
 ·refine q8 (q7 hT ?_)
  refine x6 ?_
  refine y9 [] ⟨?_,rfl⟩ rfl
  show AV.p (.raw (.int .i64 (IntKind.i64.wrap (4294967295 - ((run all1 l).toNat:Int)))))=_
  have h1:=(run all1 l).isLt
  have e:(sum l).toNat=4294967295 - (run all1 l).toNat:=by
   unfold sum
   have:run all1 l ^^^ all1 = ~~~ (run all1 l):=by
    rw[← BitVec.xor_allOnes];rfl
   rw[this,BitVec.toNat_not]
  rw[x9 _ (by omega) (by omega),e]
  congr 3
  omega
end Go.Proofs.YtinfbclgkghgaaaGreat.AL
namespace Go.Proofs.YtinfbclgkghgaaaGreat.AL
open Go Go.Proofs Go.Proofs.YtinfbclgkghgaaaGreat.AL.Crc
def leB (k n:Nat):y7:=(List.range k).map fun j=>UInt8.ofNat (n / 256 ^ j)
theorem J0 (k n:Nat):(leB k n).length=k:=by simp[leB]
theorem z7p (k n:Nat):leB (k+1) n=leB k n++[UInt8.ofNat (n / 256 ^ k)]:=by unfold leB;rw[List.range_succ,List.map_append];rfl
theorem y3h (l:y7)(b:UInt8):bx (l++[b])=bx l++[[u8 b]]:=by simp[bx]
theorem q2p (l r:y7):bx (l++r)=bx l++bx r:=by simp[bx]
theorem y3i (n k:Nat):n / 256 ^ (k+1)=n / 256 ^ k / 256:=by rw[Nat.pow_succ,Nat.div_div_eq_div_mul]
theorem u7u (q:Nat):((q:Int).fdiv (2 ^ (min ((8:Nat):Int).toNat 64)))=((q / 256:Nat):Int):=by
 rw[Int.fdiv_eq_ediv_of_nonneg _ (Int.pow_nonneg (by omega)),Int.natCast_ediv];rfl
theorem w9b (n:Nat):AF Tryz.prog y5i [i64 n] [] (Q0 (.msl 0 1 0 4) [.row z4 1 (bx (leB 4 n))]):=by
 refine u9 hT w3e rfl rfl w3f rfl ?_
 refine q8 (q7 hT ?_)
 refine q8 (q7 hT ?_)
 refine Q8 (Wk.trans (J9 z4 1) (q9u 3 0 1 0 rfl)) ?_
 refine q8 (q8 (q7 hT ?_))
 refine z7 ?_
 refine w7 (fun m s=>∃ (i:Nat) (j v:Int) (L:y7),m+i=4∧j=i∧v=((n / 256 ^ i:Nat):Int)∧L=leB i n∧s=⟨⟨15,[(0,i64 v),(3,.msl 0 1 0 (bx L).length),(4,i64 j)]⟩,[.row z4 1 (bx L)]⟩) 4 ⟨⟨15,_⟩,[_]⟩ (q9 [0] [0,3,4] rfl) ⟨0,0,_,[],rfl,rfl,by rw[Nat.pow_zero,Nat.div_one],rfl,rfl⟩ ?_
 rintro m s ⟨i,j,v,L,hmi,rfl,rfl,hL,rfl⟩
 have hLl:L.length=i:=by rw[hL,J0]
 have hbl:=u6 L
 refine q8 (q7 hT ?_)
 refine q8 (z6 (x7 (fun h=>?_) (fun h=>?_)))
 ·have hi:i<4:=by
   have:=of_decide_eq_true (show decide ((i:Int)<4)=true from h)
   omega
  refine z9 ?_
  refine y8 ⟨⟨15,[(0,i64 ((n / 256 ^ (i+1):Nat):Int)),(3,.msl 0 1 0 (bx (L++[UInt8.ofNat (n / 256 ^ i)])).length),(4,i64 i)]⟩,[.row z4 1 (bx (L++[UInt8.ofNat (n / 256 ^ i)]))]⟩ True (z7 (q8 (X6 (fun k=>Nat.beq 3 k) hT ?_))) (fun _=>?_)
  ·refine⟨⟨rfl,rfl⟩,?_⟩
   refine⟨rfl,⟨?_,?_⟩,?_⟩
   ·show ((bx L).length+1)*1≤140737488355328
    omega
   ·show (bx L).length+1≤140737488355328
    omega
   refine q7 hT ?_
   rw[y3h,show u8 (UInt8.ofNat (n / 256 ^ i))=PV.raw (.int .u8 (IntKind.u8.wrap ((n / 256 ^ i:Nat):Int))) by rw[q4d],y3i,← u7u]
   exact⟨q9 [1] [0,3,4] rfl,trivial⟩
  ·refine q7 hT ?_
   refine⟨m - 1,by omega,_,q9 [0] [0,3,4] rfl,i+1,IntKind.i64.wrap ((i:Int)+1),_,_,by omega,?_,rfl,by rw[hL,z7p],rfl⟩
   rw[x9 _ (by omega) (by omega)];rfl
 ·have hi:¬ (i:Int)<4:=of_decide_eq_false h
  have hi4:i=4:=by omega
  subst hi4
  refine u0 ?_
  refine q8 (q7 hT ?_)
  refine x6 ?_
  subst hL
  have e:(bx (leB 4 n)).length=4:=by rw[hbl,J0]
  rw[show AV.msl 0 1 0 4=AV.msl 0 1 0 (bx (leB 4 n)).length by rw[e]]
  exact y9 [0] ⟨rfl,rfl⟩ rfl
theorem x9q (n:Nat):AF Tryz.prog y5i [i64 n] [] (Q0 (bA (leB 4 n)) []):=z8x (w9b n) (by rw[u6,J0])
def q0i (l:y7):y7:=l++leB 4 (sum l).toNat
theorem q9c (l:y7):(q0i l).length=l.length+4:=by unfold q0i;rw[List.length_append,J0]
theorem v5e (q:Nat):IntKind.u8.wrap ((q:Int).tmod 256)=((UInt8.ofNat q).toNat:Int):=by
 rw[show (256:Int)=((256:Nat):Int) from rfl,x9p,q4d,UInt8.toNat_ofNat',UInt8.toNat_ofNat'];omega
theorem x9r (l:y7)(hl:l.length≤1000000):AF Tryz.prog z7a [bA l] [] (Q0 (.msl 0 1 0 (q0i l).length) [.row z4 1 (bx (q0i l))]):=by
 have hbl:=u6 l
 refine u9 hT x4r rfl rfl x4s rfl ?_
 refine q8 (q7 hT ?_)
 refine q8 (q7 hT ?_)
 refine x8 (w9a l hl) ?_
 have hn:=(sum l).isLt
 unfold q0i
 generalize (sum l).toNat=n at hn
 refine q8 (q7 hT ?_)
 refine⟨⟨?_,?_⟩,?_⟩
 ·show (bx l).length*1≤140737488355328
  omega
 ·show (bx l).length≤140737488355328
  omega
 refine q8 (q8 (q7 hT ?_))
 refine z7 ?_
 refine w7 (fun m s=>∃ (i:Nat) (j v:Int) (L:y7),m+i=4∧j=i∧v=((n / 256 ^ i:Nat):Int)∧L=l++leB i n∧s=⟨⟨23,[(3,i64 v),(4,.msl 0 1 0 (bx L).length),(5,i64 j)]⟩,[.row z4 1 (bx L)]⟩) 4 ⟨⟨23,_⟩,[_]⟩ (q9 [0] [3,4,5] rfl) ⟨0,0,_,l,rfl,rfl,by rw[Nat.pow_zero,Nat.div_one],by simp[leB],rfl⟩ ?_
 rintro m s ⟨i,j,v,L,hmi,rfl,rfl,hL,rfl⟩
 have hLl:L.length=l.length+i:=by rw[hL,List.length_append,J0]
 have hbL:=u6 L
 refine q8 (q8 (q7 hT ?_))
 refine z6 (x7 (fun h=>?_) (fun h=>?_))
 ·have hi:i<4:=by
   have:=of_decide_eq_true (show decide ((i:Int)<4)=true from h)
   omega
  refine z9 ?_
  refine y8 ⟨⟨23,[(3,i64 ((n / 256 ^ (i+1):Nat):Int)),(4,.msl 0 1 0 (bx (L++[UInt8.ofNat (n / 256 ^ i)])).length),(5,i64 i)]⟩,[.row z4 1 (bx (L++[UInt8.ofNat (n / 256 ^ i)]))]⟩ True (z7 (q8 (X6 (fun k=>Nat.beq 4 k) hT ?_))) (fun _=>?_)
  ·refine⟨⟨rfl,rfl⟩,?_⟩
   refine⟨rfl,⟨?_,?_⟩,?_⟩
   ·show ((bx L).length+1)*1≤140737488355328
    omega
   ·show (bx L).length+1≤140737488355328
    omega
   refine q7 hT ?_
   have hq:n / 256 ^ i≤n:=Nat.div_le_self _ _
   rw[y3h,show u8 (UInt8.ofNat (n / 256 ^ i))=PV.raw (.int .u8 (IntKind.u8.wrap (((n / 256 ^ i:Nat):Int).tmod 256))) by rw[v5e],y3i,← y6t _ 256 (by omega)]
   exact⟨q9 [1] [3,4,5] rfl,trivial⟩
  ·refine q7 hT ?_
   refine⟨m - 1,by omega,_,q9 [0] [3,4,5] rfl,i+1,IntKind.i64.wrap ((i:Int)+1),_,_,by omega,?_,rfl,by rw[hL,z7p,List.append_assoc],rfl⟩
   rw[x9 _ (by omega) (by omega)];rfl
 ·have hi:¬ (i:Int)<4:=of_decide_eq_false h
  have hi4:i=4:=by omega
  subst hi4
  refine u0 ?_
  refine q8 (q7 hT ?_)
  refine x6 ?_
  subst hL
  rw[← u6 (l++leB 4 n)]
  exact y9 [0] ⟨rfl,rfl⟩ rfl
theorem w3y (l:y7)(hl:l.length≤1000000):AF Tryz.prog z7a [bA l] [] (Q0 (bA (q0i l)) []):=z8x (x9r l hl) (by rw[u6])
end Go.Proofs.YtinfbclgkghgaaaGreat.AL
namespace Go.Proofs.YtinfbclgkghgaaaGreat.AL
open Go Go.Proofs
def val:y7→Nat
 |[]=>0
 |c :: r=>c.toNat % 128+128*val r
def y2z (n:Nat):y7:=if n<128 then [UInt8.ofNat n] else UInt8.ofNat (n % 128+128) :: y2z (n / 128)
termination_by n
decreasing_by omega
theorem w6d {n:Nat}(h:n<128):y2z n=[UInt8.ofNat n]:=by rw[y2z,if_pos h]
theorem v8c {n:Nat}(h:¬ n<128):y2z n=UInt8.ofNat (n % 128+128) :: y2z (n / 128):=by rw[y2z,if_neg h]
theorem q9d:∀ (k n:Nat),n<128 ^ (k+1)→(y2z n).length≤k+1
 |0,n,h=>by rw[w6d (by simpa using h)];simp
 |k+1,n,h=>by
  by_cases h1:n<128
  ·rw[w6d h1];simp
  ·rw[v8c h1,List.length_cons]
   have:=q9d k (n / 128) (by rw[Nat.pow_succ]at h;exact Nat.div_lt_of_lt_mul (by rw[Nat.mul_comm];exact h))
   omega
end Go.Proofs.YtinfbclgkghgaaaGreat.AL
namespace Go.Proofs.YtinfbclgkghgaaaGreat.AL
open Go Go.Proofs Go.Proofs.YtinfbclgkghgaaaGreat.AL.Crc
theorem x5b (s t:y7)(hs:s.length≤1000000):AF Tryz.prog q6g [bA s,bA t] [] (Q0 (bl (s==t)) []):=by
 refine u9 hT z3w rfl rfl z3x rfl ?_
 refine q8 (q7 hT ?_)
 refine q8 (q8 (q7 hT ?_))
 refine z6 (x7 (fun h=>?_) (fun h=>?_))
 ·have hne:(s==t)=false:=by
   have h:(((bx s).length:Int) != ((bx t).length:Int))=true:=h
   rw[u6,u6]at h
   rw[beq_eq_false_iff_ne]
   rintro rfl
   simp at h
  refine q8 (q7 hT ?_)
  refine x6 ?_
  rw[hne]
  exact y9 [] ⟨rfl,rfl⟩ rfl
 have hlen:s.length=t.length:=by
  have h:(((bx s).length:Int) != ((bx t).length:Int))=false:=h
  rw[u6,u6]at h
  have h:(s.length:Int)=t.length:=by simpa using h
  omega
 refine z9 ?_
 refine q8 (q8 (q7 hT ?_))
 refine z7 ?_
 refine w7 (fun n st=>∃ (i:Nat) (j:Int),n+i=s.length∧j=i∧s.take i=t.take i∧st=⟨⟨26,[(0,bA s),(1,bA t),(12,i64 s.length),(13,i64 j)]⟩,[]⟩) s.length ⟨⟨26,_⟩,[]⟩ (q9 [] [0,1,12,13] rfl) ⟨0,_,rfl,rfl,rfl,by rw[← u6 s];rfl⟩ ?_
 rintro n st ⟨i,j,hni,rfl,ht,rfl⟩
 refine q8 (q7 hT ?_)
 refine q8 (z6 (x7 (fun h=>?_) (fun h=>?_)))
 ·have hi:i<s.length:=by
   have:=of_decide_eq_true (show decide ((i:Int)<(s.length:Int))=true from h)
   omega
  have hx:(bx s)[((i:Nat):Int).toNat]?=some [u8 s[i]]:=by
   rw[Int.toNat_natCast,bx,List.getElem?_map,List.getElem?_eq_getElem hi];rfl
  have hy:(bx t)[((i:Nat):Int).toNat]?=some [u8 (t[i]'(by omega))]:=by
   rw[Int.toNat_natCast,bx,List.getElem?_map,List.getElem?_eq_getElem (by omega)];rfl
  refine z9 ?_
  refine q8 (z7 (q8 (q7 hT ?_)))
  refine q8 ?_
  refine w9 [] [] hT z8 (by rfl) ?_
  refine⟨Int.natCast_nonneg _,u7 hx ?_⟩
  refine⟨Int.natCast_nonneg _,u7 hy ?_⟩
  refine z6 (x7 (fun h2=>?_) (fun h2=>?_))
  ·have hne:(s==t)=false:=by
    rw[beq_eq_false_iff_ne]
    rintro rfl
    have h2:(((s[i].toNat:Nat):Int) != ((s[i].toNat:Nat):Int))=true:=h2
    simp at h2
   refine q8 (q7 hT ?_)
   refine x6 ?_
   rw[hne]
   exact y9 [] ⟨rfl,rfl⟩ rfl
  ·have he:s[i]=t[i]'(by omega):=by
    have h2:(((s[i].toNat:Nat):Int) != (((t[i]'(by omega)).toNat:Nat):Int))=false:=h2
    have h2:(s[i].toNat:Int)=((t[i]'(by omega)).toNat:Int):=by simpa using h2
    have h2:s[i].toNat=(t[i]'(by omega)).toNat:=by omega
    exact UInt8.toNat_inj.mp h2
   refine z9 ?_
   refine q7 hT ?_
   refine⟨n - 1,by omega,_,q9 [] [0,1,12,13] rfl,i+1,IntKind.i64.wrap ((i:Int)+1),by omega,?_,?_,rfl⟩
   ·rw[x9 _ (by omega) (by omega)];rfl
   ·rw[List.take_add_one,List.take_add_one,ht,List.getElem?_eq_getElem hi,List.getElem?_eq_getElem (show i<t.length by omega),he]
 ·refine u0 ?_
  have hi:i=s.length:=by
   have:=of_decide_eq_false (show decide ((i:Int)<(s.length:Int))=false from h)
   omega
  have he:(s==t)=true:=by
   rw[beq_iff_eq]
   rw[hi,List.take_length,hlen,List.take_length]at ht
   exact ht
  refine q8 (q7 hT ?_)
  refine x6 ?_
  rw[he]
  exact y9 [] ⟨rfl,rfl⟩ rfl
theorem x9s (l:y7)(hl:l.length≤1000000):AF Tryz.prog q8j [bA l] [] (Q0 (bA l) []):=by
 have hb:=u6 l
 generalize hx:bx l=xs at hb
 show AF Tryz.prog q8j [.p (.sl 1 (bx l))] [] (Q0 (.p (.sl 1 (bx l))) [])
 rw[hx]
 refine z8x (t:=z4) (n:=xs.length) ?_ rfl
 refine u9 hT y9j rfl rfl y9k rfl ?_
 refine q8 (q7 hT ?_)
 refine q8 (q8 (q7 hT ?_))
 intro b hn
 refine z6 (x7 (fun h=>?_) (fun h=>?_))
 ·refine q8 (q7 hT ?_)
  refine x6 ?_
  rw[hn h]
  exact x3w z4 1 ⟨rfl,rfl⟩
 ·refine z9 ?_
  refine q8 (q7 hT ?_)
  refine⟨rfl,⟨?_,?_⟩,?_⟩
  ·show (0+xs.length)*1≤_;omega
  ·show 0+xs.length≤_;omega
  refine x6 ?_
  exact y9 [1] ⟨rfl,rfl⟩ rfl
theorem x9t (n:Int)(h0:0≤n)(hn:n≤1000000):AF Tryz.prog z4z [.p (.raw (.slice none 0 0)),i64 n] [] (Q0 (.msl 0 1 0 0) [.row z4 1 []]):=by
 refine u9 hT z5a rfl rfl z5b rfl ?_
 refine q8 (q7 hT ?_)
 refine q8 (q8 (q7 hT ?_))
 refine z6 (x7 (fun h=>?_) (fun h=>?_))
 ·have:=of_decide_eq_true (show decide (n<0)=true from h)
  omega
 refine z9 ?_
 have e:IntKind.i64.wrap (n - IntKind.i64.wrap (0 - 0))=n:=by rw[x9 (0 - 0) (by omega) (by omega),x9 _ (by omega) (by omega)];omega
 refine y8 ⟨⟨27,[(0,.msl 0 1 0 0)]⟩,[.row z4 1 []]⟩ True (q8 (q7 hT ?_)) (fun _=>?_)
 ·refine q8 (q7 hT ?_)
  refine z6 (x7 (fun h=>?_) (fun h=>?_))
  ·have h:decide (IntKind.i64.wrap (n - IntKind.i64.wrap (0 - 0)) > 0)=true:=h
   refine q7 hT ?_
   refine⟨⟨rfl,rfl⟩,?_⟩
   refine⟨⟨?_,?_,?_⟩,?_⟩
   ·show 0≤IntKind.i64.wrap (n - IntKind.i64.wrap (0 - 0))
    rw[e];exact h0
   ·show IntKind.i64.wrap (n - IntKind.i64.wrap (0 - 0))*1≤140737488355328
    rw[e];omega
   ·show IntKind.i64.wrap (n - IntKind.i64.wrap (0 - 0))≤140737488355328
    rw[e];omega
   refine⟨⟨Int.le_refl _,Int.le_refl _,Int.natCast_nonneg _⟩,?_⟩
   refine⟨Wk.trans (q9 [0] [0] rfl) (Wk.trans (y6h 0 0 rfl) ?_),trivial⟩
   exact q9 [0] [0] rfl
  ·refine z9 ?_
   exact⟨Wk.trans (J9 z4 1) (Wk.trans (q9u 0 0 1 0 rfl) (q9 [0] [0] rfl)),trivial⟩
 ·refine q8 (q7 hT ?_)
  refine x6 ?_
  exact y9 [0] ⟨rfl,rfl⟩ rfl
end Go.Proofs.YtinfbclgkghgaaaGreat.AL
namespace Go.Proofs.YtinfbclgkghgaaaGreat.AL
open Go Go.Proofs Go.Proofs.YtinfbclgkghgaaaGreat.AL.Crc
def y6 (Ls:List y7):List (List PV):=Ls.map fun l=>[bP l]
theorem Z7 (Ls:List y7):(y6 Ls).length=Ls.length:=by simp[y6]
theorem Z2 {Ls:List y7}{i:Nat}{l:y7}(h:Ls[i]?=some l):(y6 Ls)[i]?=some [bP l]:=by rw[y6,List.getElem?_map,h];rfl
theorem y6u (Ls:List y7)(h1:Ls.length≤1000)(h2:Ls.flatten.length≤1000000):AF Tryz.prog q5i [.p (.sl 1 (y6 Ls))] [] (Q0 (.msl 0 1 0 (bx Ls.flatten).length) [.row z4 1 (bx Ls.flatten)]):=by
 have sub:∀ i,(Ls.take i).flatten.length≤1000000:=fun i=>by
  refine Nat.le_trans ?_ h2
  conv=>rhs;rw[← List.take_append_drop i Ls,List.flatten_append,List.length_append]
  omega
 refine u9 hT z1s rfl rfl z1t rfl ?_
 refine q8 (q7 hT ?_)
 refine q8 (q7 hT ?_)
 refine w6 (fun s1=>∃ n:Int,0≤n∧n≤1000000∧s1=⟨⟨36,[(0,.p (.sl 1 (y6 Ls))),(3,i64 n)]⟩,[]⟩) (q8 (q7 hT ?_)) ?_
 ·refine z7 ?_
  refine w7 (fun m s=>∃ (i:Nat) (j v:Int),m+i=Ls.length∧j=i∧v=((Ls.take i).flatten.length:Int)∧s=⟨⟨36,[(0,.p (.sl 1 (y6 Ls))),(3,i64 v),(9,.p (.sl 1 (y6 Ls))),(10,i64 Ls.length),(11,i64 j)]⟩,[]⟩) Ls.length ⟨⟨36,_⟩,[]⟩ (q9 [] [0,3,9,10,11] rfl) ⟨0,0,0,rfl,rfl,rfl,by rw[← Z7 Ls];rfl⟩ ?_
  rintro m s ⟨i,j,v,hmi,rfl,hv,rfl⟩
  have hs:=sub i
  refine q8 (q7 hT ?_)
  refine q8 (z6 (x7 (fun h=>?_) (fun h=>?_)))
  ·have hi:i<Ls.length:=by
    have:=of_decide_eq_true (show decide ((i:Int)<(Ls.length:Int))=true from h)
    omega
   have hx:=List.getElem?_eq_getElem hi
   have htk:Ls.take (i+1)=Ls.take i++[Ls[i]]:=by rw[List.take_add_one,hx];rfl
   generalize Ls[i]=l at hx htk
   have hxp:(y6 Ls)[((i:Nat):Int).toNat]?=some [bP l]:=by rw[Int.toNat_natCast];exact Z2 hx
   have hs2:=sub (i+1)
   have hfl:(Ls.take (i+1)).flatten.length=(Ls.take i).flatten.length+l.length:=by rw[htk,List.flatten_append,List.length_append];simp
   have hw:IntKind.i64.wrap (v+((bx l).length:Int))=((Ls.take (i+1)).flatten.length:Int):=by
    rw[hv,u6,x9 _ (by omega) (by omega)];omega
   refine z9 ?_
   refine y8 ⟨⟨36,[(0,.p (.sl 1 (y6 Ls))),(3,i64 ((Ls.take (i+1)).flatten.length:Int)),(9,.p (.sl 1 (y6 Ls))),(10,i64 Ls.length),(11,i64 i)]⟩,[]⟩ True (z7 (q8 (q7 hT ?_))) (fun _=>?_)
   ·refine⟨Int.natCast_nonneg _,u7 hxp ?_⟩
    refine q8 (q7 hT ?_)
    refine q8 (q7 hT ?_)
    refine z6 (x7 (fun h3=>?_) (fun h3=>?_))
    ·have h3:decide (IntKind.i64.wrap (v+((bx l).length:Int))<0)=true:=h3
     have h3:=of_decide_eq_true h3
     rw[hw]at h3;omega
    ·refine z9 ?_
     rw[← hw]
     exact⟨q9 [] [0,3,9,10,11] rfl,trivial⟩
   ·refine q7 hT ?_
    refine⟨m - 1,by omega,_,q9 [] [0,3,9,10,11] rfl,i+1,IntKind.i64.wrap ((i:Int)+1),_,by omega,?_,rfl,rfl⟩
    rw[x9 _ (by omega) (by omega)];rfl
  ·refine u0 ?_
   exact⟨_,q9 [] [0,3] rfl,v,by omega,by omega,rfl⟩
 rintro _ ⟨n,n0,n1,rfl⟩
 refine q8 (q7 hT ?_)
 refine x8 (x9t n n0 n1) ?_
 refine q8 (q8 (q7 hT ?_))
 refine z7 ?_
 refine w7 (fun m s=>∃ (i:Nat) (j:Int) (L:y7),m+i=Ls.length∧j=i∧L=(Ls.take i).flatten∧s=⟨⟨36,[(6,.msl 0 1 0 (bx L).length),(25,.p (.sl 1 (y6 Ls))),(26,i64 Ls.length),(27,i64 j)]⟩,[.row z4 1 (bx L)]⟩) Ls.length ⟨⟨36,_⟩,[_]⟩ (q9 [0] [6,25,26,27] rfl) ⟨0,0,[],rfl,rfl,rfl,by rw[← Z7 Ls];rfl⟩ ?_
 rintro m s ⟨i,j,L,hmi,rfl,hL,rfl⟩
 have hs:=sub i
 rw[← hL]at hs
 have hbL:=u6 L
 refine q8 (q7 hT ?_)
 refine q8 (z6 (x7 (fun h=>?_) (fun h=>?_)))
 ·have hi:i<Ls.length:=by
   have:=of_decide_eq_true (show decide ((i:Int)<(Ls.length:Int))=true from h)
   omega
  have hx:=List.getElem?_eq_getElem hi
  have htk:Ls.take (i+1)=Ls.take i++[Ls[i]]:=by rw[List.take_add_one,hx];rfl
  generalize Ls[i]=l at hx htk
  have hxp:(y6 Ls)[((i:Nat):Int).toNat]?=some [bP l]:=by rw[Int.toNat_natCast];exact Z2 hx
  have hs2:=sub (i+1)
  have hfl:(Ls.take (i+1)).flatten=L++l:=by rw[htk,List.flatten_append,hL];simp
  rw[hfl,List.length_append]at hs2
  have hbl:=u6 l
  refine z9 ?_
  refine y8 ⟨⟨36,[(6,.msl 0 1 0 (bx (L++l)).length),(25,.p (.sl 1 (y6 Ls))),(26,i64 Ls.length),(27,i64 i)]⟩,[.row z4 1 (bx (L++l))]⟩ True (z7 (q8 (q7 hT ?_))) (fun _=>?_)
  ·refine⟨Int.natCast_nonneg _,u7 hxp ?_⟩
   refine q7 hT ?_
   refine⟨rfl,⟨?_,?_⟩,?_⟩
   ·show ((bx L).length+(bx l).length)*1≤140737488355328
    omega
   ·show (bx L).length+(bx l).length≤140737488355328
    omega
   rw[q2p]
   exact⟨q9 [1] [6,25,26,27] rfl,trivial⟩
  ·refine q7 hT ?_
   refine⟨m - 1,by omega,_,q9 [0] [6,25,26,27] rfl,i+1,IntKind.i64.wrap ((i:Int)+1),L++l,by omega,?_,hfl.symm,rfl⟩
   rw[x9 _ (by omega) (by omega)];rfl
 ·have hi:¬ (i:Int)<(Ls.length:Int):=of_decide_eq_false h
  have hil:i=Ls.length:=by omega
  subst hil
  rw[List.take_length]at hL
  subst hL
  refine u0 ?_
  refine q8 (q7 hT ?_)
  refine x6 ?_
  exact y9 [0] ⟨rfl,rfl⟩ rfl
theorem y9u (Ls:List y7)(h1:Ls.length≤1000)(h2:Ls.flatten.length≤1000000):AF Tryz.prog q5i [.p (.sl 1 (y6 Ls))] [] (Q0 (bA Ls.flatten) []):=z8x (y6u Ls h1 h2) rfl
theorem v5f (l:y7)(hl:l.length≤900000):AF Tryz.prog w2y [bA l] [] (Q0 (bA (q0i l)) []):=by
 have w:=y9u [l,leB 4 (sum l).toNat] (by simp) (by simp[J0];omega)
 have e:[l,leB 4 (sum l).toNat].flatten=q0i l:=by simp[q0i]
 rw[e]at w
 refine u9 hT w2z rfl rfl w3a rfl ?_
 refine q8 (q7 hT ?_)
 refine q8 (X6 (fun k=>Nat.beq 4 k) hT ?_)
 refine x8 (w6c l (by omega)) ?_
 refine x8 (x9q (sum l).toNat) ?_
 refine⟨⟨rfl,rfl⟩,?_⟩
 refine x8 w ?_
 refine x6 ?_
 exact y9 [] ⟨rfl,rfl⟩ rfl
def q0k (l:y7):Bool:=match decide (4≤l.length) with
 |true=>l.drop (l.length - 4)==leB 4 (sum (l.take (l.length - 4))).toNat
 |false=>false
theorem x5c (l:y7)(n:Nat):bx (l.drop n)=(bx l).drop n:=by rw[bx,bx,List.map_drop]
theorem y3j (l:y7)(n:Nat):bx (l.take n)=(bx l).take n:=by rw[bx,bx,List.map_take]
theorem w9c (l:y7)(hl:l.length≤1000000):AF Tryz.prog x8j [bA l] [] (Q0 (bl (q0k l)) []):=by
 have hbl:=u6 l
 refine u9 hT x8k rfl rfl x8m rfl ?_
 refine q8 (q7 hT ?_)
 have hw:IntKind.i64.wrap (((bx l).length:Int) - 4)=(l.length:Int) - 4:=by rw[hbl,x9 _ (by omega) (by omega)]
 refine y8 ⟨⟨20,[(0,bA l),(3,i64 ((l.length:Int) - 4))]⟩,[]⟩ True (q7 hT ?_) (fun _=>?_)
 ·rw[← hw]
  exact⟨q9 [] [0,3] rfl,trivial⟩
 refine q8 ?_
 refine w9 [] [] hT z8 (by rfl) ?_
 refine x7 (fun h=>?_) (fun h=>?_)
 ·have h:=of_decide_eq_true (show decide ((l.length:Int) - 4≥0)=true from h)
  have e1:((bx l).take ((l.length:Int) - 4).toNat).drop (0:Int).toNat=bx (l.take (l.length - 4)):=by
   rw[show ((l.length:Int) - 4).toNat=l.length - 4 by omega,y3j];rfl
  have e2:((bx l).take (((bx l).length:Int)).toNat).drop ((l.length:Int) - 4).toNat=bx (l.drop (l.length - 4)):=by
   rw[show ((l.length:Int) - 4).toNat=l.length - 4 by omega,Int.toNat_natCast,List.take_length,x5c]
  have w1:AF Tryz.prog x0v [.p (.sl 1 (((bx l).take ((l.length:Int) - 4).toNat).drop (0:Int).toNat))] [] (Q0 (i64 ((sum (l.take (l.length - 4))).toNat:Int)) []):=by
   rw[e1];exact w6c _ (by rw[List.length_take];omega)
  have w3:AF Tryz.prog q6g [.p (.sl 1 (((bx l).take (((bx l).length:Int)).toNat).drop ((l.length:Int) - 4).toNat)),bA (leB 4 (sum (l.take (l.length - 4))).toNat)] [] (Q0 (bl (l.drop (l.length - 4)==leB 4 (sum (l.take (l.length - 4))).toNat)) []):=by
   rw[e2];exact x5b _ _ (by rw[List.length_drop];omega)
  have ew:q0k l=(l.drop (l.length - 4)==leB 4 (sum (l.take (l.length - 4))).toNat):=by unfold q0k;rw[decide_eq_true (show 4≤l.length by omega)]
  refine⟨⟨h,by omega,Int.le_refl _⟩,?_⟩
  refine⟨⟨Int.le_refl _,h,by omega⟩,?_⟩
  refine⟨_,u5 w1 _ rfl rfl,?_⟩
  refine⟨_,u5 (x9q _) _ rfl rfl,?_⟩
  refine⟨_,u5 w3 _ rfl rfl,?_⟩
  refine x6 ?_
  rw[ew]
  exact y9 [] ⟨rfl,rfl⟩ rfl
 ·have h:=of_decide_eq_false (show decide ((l.length:Int) - 4≥0)=false from h)
  have ew:q0k l=false:=by unfold q0k;rw[decide_eq_false (by omega)]
  refine x6 ?_
  rw[ew]
  exact y9 [] ⟨rfl,rfl⟩ rfl
end Go.Proofs.YtinfbclgkghgaaaGreat.AL
namespace Go.Proofs.YtinfbclgkghgaaaGreat.AL
open Go Go.Proofs Go.Proofs.YtinfbclgkghgaaaGreat.AL.Crc
theorem ixg {l:List Int}{i:Nat}{c:Int}(h:l[i]?=some c):(ix l)[i]?=some [.raw (.int .i64 c)]:=by rw[ix,List.getElem?_map,h];rfl
theorem ixl (l:List Int):(ix l).length=l.length:=by simp[ix]
def X2 (n:Int):Bool:=decide (0≤n)&&decide (n≤4294967295)
theorem x9u (l:List Int)(hl:l.length≤1000000):AF Tryz.prog y9p [.p (.sl 1 (ix l))] [] (Q0 (bl (l.all X2)) []):=by
 refine u9 hT y9q rfl rfl y9r rfl ?_
 refine q8 (q7 hT ?_)
 refine y8 ⟨⟨18,[]⟩,[]⟩ (l.all X2=true) (q8 (q7 hT ?_)) ?_
 ·refine z7 ?_
  refine w7 (fun n s=>∃ (i:Nat) (j:Int),n+i=l.length∧j=i∧(l.take i).all X2=true∧s=⟨⟨18,[(5,.p (.sl 1 (ix l))),(6,i64 l.length),(7,i64 j)]⟩,[]⟩) l.length ⟨⟨18,_⟩,[]⟩ (q9 [] [5,6,7] rfl) ⟨0,0,rfl,rfl,rfl,by rw[← ixl l];rfl⟩ ?_
  rintro n s ⟨i,j,hni,rfl,ht,rfl⟩
  refine q8 (q7 hT ?_)
  refine q8 (z6 (x7 (fun h=>?_) (fun h=>?_)))
  ·have hi:i<l.length:=by
    have:=of_decide_eq_true (show decide ((i:Int)<(l.length:Int))=true from h)
    omega
   have hx:=List.getElem?_eq_getElem hi
   have hmem:=List.getElem_mem hi
   have htk:l.take (i+1)=l.take i++[l[i]]:=by rw[List.take_add_one,hx];rfl
   generalize l[i]=c at hx htk hmem
   have hxp:(ix l)[((i:Nat):Int).toNat]?=some [.raw (.int .i64 c)]:=by rw[Int.toNat_natCast];exact ixg hx
   have bad:X2 c=false→l.all X2=false:=fun h=>by
    rw[List.all_eq_false];exact⟨c,hmem,by rw[h];simp⟩
   refine z9 ?_
   refine y8 ⟨⟨18,[(5,.p (.sl 1 (ix l))),(6,i64 l.length),(7,i64 i)]⟩,[]⟩ (X2 c=true) (z7 (q8 (q7 hT ?_))) ?_
   ·refine⟨Int.natCast_nonneg _,u7 hxp ?_⟩
    refine q8 (q7 hT ?_)
    refine x7 (fun h2=>?_) (fun h2=>?_)
    ·have h2:=of_decide_eq_true (show decide (c<0)=true from h2)
     refine z6 ?_
     refine q8 (q7 hT ?_)
     refine x6 ?_
     rw[bad (by unfold X2;rw[decide_eq_false (by omega)];rfl)]
     exact y9 [] ⟨rfl,rfl⟩ rfl
    ·have h2:=of_decide_eq_false (show decide (c<0)=false from h2)
     refine z6 (x7 (fun h3=>?_) (fun h3=>?_))
     ·have h3:=of_decide_eq_true (show decide (c > 4294967295)=true from h3)
      refine q8 (q7 hT ?_)
      refine x6 ?_
      rw[bad (by unfold X2;rw[decide_eq_false (show ¬ c≤4294967295 by omega),Bool.and_false])]
      exact y9 [] ⟨rfl,rfl⟩ rfl
     ·have h3:=of_decide_eq_false (show decide (c > 4294967295)=false from h3)
      exact z9 ⟨q9 [] [5,6,7] rfl,by unfold X2;rw[decide_eq_true (show 0≤c by omega),decide_eq_true (show c≤4294967295 by omega)];rfl⟩
   ·intro hc
    refine q7 hT ?_
    refine⟨n - 1,by omega,_,q9 [] [5,6,7] rfl,i+1,IntKind.i64.wrap ((i:Int)+1),by omega,?_,?_,rfl⟩
    ·rw[x9 _ (by omega) (by omega)];rfl
    ·rw[htk,List.all_append,ht];simp[hc]
  ·have hi:¬ (i:Int)<(l.length:Int):=of_decide_eq_false h
   have hil:i=l.length:=by omega
   subst hil
   rw[List.take_length]at ht
   refine u0 ?_
   exact⟨q9 [] [] rfl,ht⟩
 ·intro h
  rw[h]
  refine q8 (q7 hT ?_)
  refine x6 ?_
  exact y9 [] ⟨rfl,rfl⟩ rfl
structure Blk where
 kind:Int
 vol:Int
 addr:Int
 epoch:Int
 seq:Int
 body:y7
 deriving DecidableEq
abbrev Blk.pv (b:Blk):List PV:=[.raw (.int .i64 b.kind),.raw (.int .i64 b.vol),.raw (.int .i64 b.addr),.raw (.int .i64 b.epoch),.raw (.int .i64 b.seq),bP b.body]
abbrev Blk.av (b:Blk):AV:=.agg [i64 b.kind,i64 b.vol,i64 b.addr,i64 b.epoch,i64 b.seq,bA b.body]
def Blk.nums (b:Blk):Bool:=decide (b.kind≥1)&&decide (b.kind≤4)&&[b.vol,b.addr,b.epoch,b.seq].all X2
theorem q8k (b:Blk):AF Tryz.prog y2f [b.av] [] (Q0 (bl b.nums) []):=by
 refine u9 hT y2g rfl rfl y2h rfl ?_
 refine q8 (q7 hT ?_)
 refine Q8 (Q6 0 b.pv rfl rfl) ?_
 unfold Blk.nums
 refine q8 (X6 (fun k=>Nat.beq 17 k) hT ?_)
 refine x7 (fun h1=>?_) (fun h1=>?_)
 ·rw[show decide (b.kind≥1)=true from h1]
  refine x7 (fun h2=>?_) (fun h2=>?_)
  ·rw[show decide (b.kind≤4)=true from h2]
   refine⟨⟨rfl,rfl⟩,?_⟩
   refine x8 (u5 (x9u [b.vol,b.addr,b.epoch,b.seq] (by simp)) _ rfl rfl) ?_
   refine x6 ?_
   exact y9 [] ⟨rfl,rfl⟩ rfl
  ·rw[show decide (b.kind≤4)=false from h2]
   refine x6 ?_
   exact y9 [] ⟨rfl,rfl⟩ rfl
 ·rw[show decide (b.kind≥1)=false from h1]
  refine x6 ?_
  exact y9 [] ⟨rfl,rfl⟩ rfl
def z3z (w:Nat)(l:List Nat):y7:=l.flatMap (leB w)
theorem z7q (w:Nat)(l:List Nat):(z3z w l).length=w*l.length:=by
 unfold z3z
 induction l with
 |nil=>simp
 |cons n r ih=>rw[List.flatMap_cons,List.length_append,J0,ih,List.length_cons,Nat.mul_succ];omega
theorem w9d (w:Nat)(l:List Nat)(n:Nat):z3z w (l++[n])=z3z w l++leB w n:=by unfold z3z;simp
def nx (l:List Nat):List (List PV):=l.map fun n:Nat=>[.raw (.int .i64 (n:Int))]
theorem u1e (l:List Nat):(nx l).length=l.length:=by simp[nx]
theorem u1f {l:List Nat}{i:Nat}{c:Nat}(h:l[i]?=some c):(nx l)[i]?=some [.raw (.int .i64 (c:Int))]:=by rw[nx,List.getElem?_map,h];rfl
theorem x1j (xs:List (List PV))(w:Nat)(l:List Nat)(hx:xs.length≤1000)(hw:w≤8)(hl:l.length≤100) :
 AFm Tryz.prog 0 x8g [.msl 0 1 0 xs.length,i64 w,.p (.sl 1 (nx l))] [.row z4 1 xs] (Q0 (.msl 0 1 0 (xs++bx (z3z w l)).length) [.row z4 1 (xs++bx (z3z w l))]):=by
 refine Q9 0 hT x8h rfl rfl x8i rfl rfl ?_
 refine q8 (q7 hT ?_)
 refine q8 (q8 (q7 hT ?_))
 refine z7 ?_
 refine w7 (fun m s=>∃ (i:Nat) (j:Int) (L:List (List PV)),m+i=l.length∧j=i∧L=xs++bx (z3z w (l.take i))∧s=⟨⟨28,[(0,.msl 0 1 0 L.length),(1,i64 w),(9,.p (.sl 1 (nx l))),(10,i64 l.length),(11,i64 j)]⟩,[.row z4 1 L]⟩) l.length ⟨⟨28,_⟩,[_]⟩ (q9 [0] [0,1,9,10,11] rfl) ⟨0,0,xs,rfl,rfl,by simp[z3z,bx],by rw[← u1e l];rfl⟩ ?_
 rintro m s ⟨i,j,L,hmi,rfl,hL,rfl⟩
 have hLl:L.length≤2000:=by
  have h8:w*(l.take i).length≤8*100:=Nat.mul_le_mul hw (by rw[List.length_take];omega)
  rw[hL,List.length_append,u6,z7q];omega
 refine q8 (q7 hT ?_)
 refine q8 (z6 (x7 (fun h=>?_) (fun h=>?_)))
 ·have hi:i<l.length:=by
   have:=of_decide_eq_true (show decide ((i:Int)<(l.length:Int))=true from h)
   omega
  have hx:=List.getElem?_eq_getElem hi
  have htk:l.take (i+1)=l.take i++[l[i]]:=by rw[List.take_add_one,hx];rfl
  generalize l[i]=n at hx htk
  have hxp:(nx l)[((i:Nat):Int).toNat]?=some [.raw (.int .i64 (n:Int))]:=by rw[Int.toNat_natCast];exact u1f hx
  refine z9 ?_
  refine y8 ⟨⟨28,[(0,.msl 0 1 0 (L++bx (leB w n)).length),(1,i64 w),(9,.p (.sl 1 (nx l))),(10,i64 l.length),(11,i64 i)]⟩,[.row z4 1 (L++bx (leB w n))]⟩ True (z7 (q8 (q7 hT ?_))) (fun _=>?_)
  ·refine⟨Int.natCast_nonneg _,u7 hxp ?_⟩
   refine q8 (q7 hT ?_)
   refine z7 ?_
   refine w7 (fun m s=>∃ (k:Nat) (j v:Int) (M:List (List PV)),m+k=w∧j=k∧v=((n / 256 ^ k:Nat):Int)∧M=L++bx (leB k n)∧s=⟨⟨28,[(0,.msl 0 1 0 M.length),(1,i64 w),(8,i64 v),(9,.p (.sl 1 (nx l))),(10,i64 l.length),(11,i64 i),(15,i64 w),(16,i64 j)]⟩,[.row z4 1 M]⟩) w ⟨⟨28,_⟩,[_]⟩ (q9 [0] [0,1,8,9,10,11,15,16] rfl) ⟨0,0,_,L,rfl,rfl,by rw[Nat.pow_zero,Nat.div_one],by simp[leB,bx],rfl⟩ ?_
   rintro q s ⟨k,j,v,M,hmk,rfl,rfl,hM,rfl⟩
   have hMl:M.length≤2010:=by rw[hM,List.length_append,u6,J0];omega
   refine q8 (q7 hT ?_)
   refine q8 (z6 (x7 (fun h=>?_) (fun h=>?_)))
   ·have hk:k<w:=by
     have:=of_decide_eq_true (show decide ((k:Int)<(w:Int))=true from h)
     omega
    refine z9 ?_
    refine y8 ⟨⟨28,[(0,.msl 0 1 0 (M++[[u8 (UInt8.ofNat (n / 256 ^ k))]]).length),(1,i64 w),(8,i64 ((n / 256 ^ (k+1):Nat):Int)),(9,.p (.sl 1 (nx l))),(10,i64 l.length),(11,i64 i),(15,i64 w),(16,i64 k)]⟩,[.row z4 1 (M++[[u8 (UInt8.ofNat (n / 256 ^ k))]])]⟩ True (z7 (q8 (X6 (fun k=>Nat.beq 3 k) hT ?_))) (fun _=>?_)
    ·refine⟨⟨rfl,rfl⟩,?_⟩
     refine⟨rfl,⟨?_,?_⟩,?_⟩
     ·show (M.length+1)*1≤140737488355328
      omega
     ·show M.length+1≤140737488355328
      omega
     refine q7 hT ?_
     rw[show u8 (UInt8.ofNat (n / 256 ^ k))=PV.raw (.int .u8 (IntKind.u8.wrap ((n / 256 ^ k:Nat):Int))) by rw[q4d],y3i,← u7u]
     exact⟨q9 [1] [0,1,8,9,10,11,15,16] rfl,trivial⟩
    ·refine q7 hT ?_
     refine⟨q - 1,by omega,_,q9 [0] [0,1,8,9,10,11,15,16] rfl,k+1,IntKind.i64.wrap ((k:Int)+1),_,_,by omega,?_,rfl,by rw[hM,z7p,y3h,List.append_assoc],rfl⟩
     rw[x9 _ (by omega) (by omega)];rfl
   ·have hk:¬ (k:Int)<(w:Int):=of_decide_eq_false h
    have hkw:k=w:=by omega
    subst hkw
    refine u0 ?_
    rw[← hM]
    exact⟨q9 [0] [0,1,9,10,11] rfl,trivial⟩
  ·refine q7 hT ?_
   refine⟨m - 1,by omega,_,q9 [0] [0,1,9,10,11] rfl,i+1,IntKind.i64.wrap ((i:Int)+1),_,by omega,?_,by rw[hL,htk,w9d,q2p,List.append_assoc],rfl⟩
   rw[x9 _ (by omega) (by omega)];rfl
 ·have hi:¬ (i:Int)<(l.length:Int):=of_decide_eq_false h
  have hil:i=l.length:=by omega
  subst hil
  rw[List.take_length]at hL
  refine u0 ?_
  refine q8 (q7 hT ?_)
  refine x6 ?_
  rw[← hL]
  exact y9 [0] ⟨rfl,rfl⟩ rfl
end Go.Proofs.YtinfbclgkghgaaaGreat.AL
namespace Go.Proofs.YtinfbclgkghgaaaGreat.AL
open Go Go.Proofs Go.Proofs.YtinfbclgkghgaaaGreat.AL.Crc
def Blk.head (b:Blk):y7:=[81,77,UInt8.ofNat b.kind.toNat,0]++z3z 4 [b.vol.toNat,b.addr.toNat,b.epoch.toNat,b.seq.toNat]++z3z 2 [b.body.length,0]
def Blk.all (b:Blk):y7:=b.head++b.body++List.replicate (228 - b.body.length) 0
def Blk.sld (b:Blk):y7 × Int:=match b.nums with
 |false=>([],1)
 |true=>match decide (b.body.length > 228) with
  |true=>([],2)
  |false=>(q0i b.all,0)
theorem x9v (b:Blk):b.head.length=24:=by unfold Blk.head;rw[List.length_append,List.length_append,z7q,z7q];rfl
theorem z3i (b:Blk)(h:b.body.length≤228):b.all.length=252:=by unfold Blk.all;rw[List.length_append,List.length_append,x9v,List.length_replicate];omega
theorem q0s {m:Nat}{s:St}(i b n:Nat){t:TypeId}{xs ys:List (List PV)}(e:xs=ys)(hn:n=xs.length)(hb:s.H[b]?=some (.row t 1 xs))(hi:Y5 s.fr.l i=some (.msl b 1 0 n)) :
 Wk m s ⟨⟨s.fr.n,(i,.p (.sl 1 ys)) :: s.fr.l⟩,s.H.set b .dead⟩:=by
 subst hn
 have:=y3c (m:=m) (s:=s) i b hb hi (by omega)
 rw[List.drop_zero,List.take_length]at this
 subst e
 exact this
set_option maxRecDepth 20000 in
theorem y9v (k v a e q:Nat)(body:y7)(hn:(Blk.mk k v a e q body).nums=true)(hb:body.length≤228) :
 AF Tryz.prog z6h [(Blk.mk k v a e q body).av] [] (Q0 (.tup [bA (q0i (Blk.mk k v a e q body).all),i64 0]) []):=by
 have hbl:=u6 body
 have hall:=z3i (Blk.mk k v a e q body) hb
 refine u9 hT q9x rfl rfl q9y rfl ?_
 refine q8 (q7 hT ?_)
 refine Q8 (Q6 0 (Blk.mk k v a e q body).pv rfl rfl) ?_
 have wn:=q8k (Blk.mk k v a e q body)
 rw[hn]at wn
 refine y8 ⟨⟨46,[(1,.p (.box (Blk.mk k v a e q body).pv))]⟩,[]⟩ True (z7 (q8 (q7 hT ?_))) (fun _=>?_)
 ·refine x8 (u5 wn _ rfl rfl) ?_
  refine z6 ?_
  refine q8 (q7 hT ?_)
  refine z6 (x7 (fun h=>?_) (fun h=>?_))
  ·have h:=of_decide_eq_true (show decide (((bx body).length:Int) > 228)=true from h)
   omega
  ·exact z9 ⟨q9 [] [1] rfl,trivial⟩
 have l1:=x1j [[u8 81],[u8 77],[.raw (.int .u8 (IntKind.u8.wrap (k:Int)))],[u8 0]] 4 [v,a,e,q] (by simp) (by omega) (by simp)
 generalize hM:[[u8 81],[u8 77],[PV.raw (.int .u8 (IntKind.u8.wrap (k:Int)))],[u8 0]]++bx (z3z 4 [v,a,e,q])=M at l1
 have hMl:M.length=20:=by rw[← hM,List.length_append,u6,z7q];rfl
 have l2:=x1j M 2 [(bx body).length,0] (by omega) (by omega) (by simp)
 have hH:M++bx (z3z 2 [(bx body).length,0])=bx (Blk.mk k v a e q body).head:=by
  unfold Blk.head
  rw[hbl,q2p,q2p,← hM,q4d]
  rfl
 have hhl:=x9v (Blk.mk k v a e q body)
 refine y8 ⟨⟨46,[(1,.p (.box (Blk.mk k v a e q body).pv)),(4,.msl 0 1 0 M.length)]⟩,[.row z4 1 M]⟩ True (X6 (fun k=>Nat.beq 12 k) hT ?_) (fun _=>?_)
 ·refine⟨⟨rfl,rfl⟩,?_⟩
  refine x8 (Q1 [0] l1 rfl rfl rfl) ?_
  exact⟨q9 [1] [1,4] rfl,trivial⟩
 refine y8 ⟨⟨46,[(1,.p (.box (Blk.mk k v a e q body).pv)),(4,.p (.sl 1 (bx (Blk.mk k v a e q body).head)))]⟩,[]⟩ True (X6 (fun k=>Nat.beq 4 k) hT ?_) (fun _=>?_)
 ·refine⟨⟨rfl,rfl⟩,?_⟩
  refine x8 (Q1 [0] l2 rfl rfl rfl) ?_
  refine⟨Wk.trans (q9 [1] [1,4] rfl) (Wk.trans (q0s 4 0 _ hH rfl rfl rfl) (q9 [] [1,4] rfl)),trivial⟩
 generalize hA:(Blk.mk k v a e q body).all=A at hall
 have hcopy:W4 (W4 (List.replicate 252 [u8 0]) 0 (bx (Blk.mk k v a e q body).head)) 24 (bx body)=bx A:=by
  rw[← hA]
  unfold Blk.all
  rw[q2p,q2p]
  have h1:(bx (Blk.mk k v a e q body).head).length=24:=by rw[u6,hhl]
  have e1:W4 (List.replicate 252 [u8 0]) 0 (bx (Blk.mk k v a e q body).head)=bx (Blk.mk k v a e q body).head++List.replicate 228 [u8 0]:=by
   unfold W4;rw[h1,List.take_zero,List.drop_replicate,List.nil_append]
  rw[e1]
  unfold W4
  rw[List.take_append_of_le_length (by omega),List.take_of_length_le (by omega),List.drop_append,List.drop_replicate,h1,hbl]
  rw[List.drop_eq_nil_of_le (by omega),List.nil_append]
  rw[show (228:Nat) - (24+body.length - 24)=228 - body.length by omega]
  congr 1
  unfold bx;rw[List.map_replicate]
 refine q8 (q7 hT ?_)
 refine⟨⟨rfl,by omega,by decide,by omega⟩,?_⟩
 refine y8 ⟨⟨46,[(1,.p (.box (Blk.mk k v a e q body).pv)),(5,.msl 0 1 0 252)]⟩,[.row z4 1 (W4 (List.replicate 252 [u8 0]) 0 (bx (Blk.mk k v a e q body).head))]⟩ True (q7 hT ?_) (fun _=>?_)
 ·have h1:(bx (Blk.mk k v a e q body).head).length=24:=by rw[u6,hhl]
  refine⟨⟨?_,?_⟩,?_⟩
  ·show 0+252≤(List.replicate 252 _).length
   rw[List.length_replicate];omega
  ·show (bx (Blk.mk k v a e q body).head).length≤252
   omega
  exact⟨q9 [0] [1,5] rfl,trivial⟩
 have hl0:(W4 (List.replicate 252 [u8 0]) 0 (bx (Blk.mk k v a e q body).head)).length=252:=by
  rw[W3 (by rw[List.length_replicate,u6,hhl];omega),List.length_replicate]
 generalize hS:W4 (List.replicate 252 [u8 0]) 0 (bx (Blk.mk k v a e q body).head)=S at hcopy hl0
 refine y8 ⟨⟨46,[(5,.p (.sl 1 (bx A)))]⟩,[]⟩ True ?_ (fun _=>?_)
 ·refine w9 [4] [] hT z8 (by rfl) ?_
  refine⟨⟨by omega,by decide,Int.le_refl _⟩,?_⟩
  refine⟨⟨?_,?_⟩,?_⟩
  ·show 0+24+(252 - 24)≤S.length
   omega
  ·show (bx body).length≤252 - 24
   omega
  have hSl:(W4 S 24 (bx body)).length=252:=by rw[W3 (by omega),hl0]
  exact⟨Wk.trans (q0s 5 0 252 hcopy hSl.symm rfl rfl) (q9 [] [5] rfl),trivial⟩
 ·refine q8 (q7 hT ?_)
  refine x8 (u5 (v5f A (by omega)) _ rfl rfl) ?_
  refine x6 ?_
  exact y9 [] ⟨rfl,rfl⟩ rfl
end Go.Proofs.YtinfbclgkghgaaaGreat.AL
namespace Go.Proofs.YtinfbclgkghgaaaGreat.AL
open Go Go.Proofs Go.Proofs.YtinfbclgkghgaaaGreat.AL.Crc
theorem y6v {b:Blk}(h:b.nums=true):∃ k v a e q:Nat,b=⟨k,v,a,e,q,b.body⟩∧1≤k∧k≤4∧v≤4294967295∧a≤4294967295∧e≤4294967295∧q≤4294967295:=by
 obtain⟨k,v,a,e,q,body⟩:=b
 unfold Blk.nums X2 at h
 simp only[List.all_cons,List.all_nil,Bool.and_true,Bool.and_eq_true,decide_eq_true_eq]at h
 obtain⟨⟨k1,k4⟩,⟨v0,v1⟩,⟨a0,a1⟩,⟨e0,e1⟩,q0,q1⟩:=h
 refine⟨k.toNat,v.toNat,a.toNat,e.toNat,q.toNat,?_,by omega,by omega,by omega,by omega,by omega,by omega⟩
 rw[Int.toNat_of_nonneg (by omega),Int.toNat_of_nonneg v0,Int.toNat_of_nonneg a0,Int.toNat_of_nonneg e0,Int.toNat_of_nonneg q0]
theorem y6w (b:Blk):AF Tryz.prog z6h [b.av] [] (Q0 (.tup [bA b.sld.1,i64 b.sld.2]) []):=by
 cases hn:b.nums with
 |true=>
  cases hl:decide (b.body.length > 228) with
  |false=>
   have hl:=of_decide_eq_false hl
   have e:b.sld=(q0i b.all,0):=by unfold Blk.sld;rw[hn,decide_eq_false hl]
   obtain⟨k,v,a,e',q,hb,_⟩:=y6v hn
   rw[e]
   rw[hb]at hn ⊢
   exact y9v k v a e' q b.body hn (by omega)
  |true=>
   have e:b.sld=([],2):=by unfold Blk.sld;rw[hn,hl]
   have hbl:=u6 b.body
   have hl:=of_decide_eq_true hl
   have wn:=q8k b
   rw[hn]at wn
   rw[e]
   refine u9 hT q9x rfl rfl q9y rfl ?_
   refine q8 (q7 hT ?_)
   refine Q8 (Q6 0 b.pv rfl rfl) ?_
   refine q8 (z7 (q8 (q7 hT ?_)))
   refine x8 (u5 wn _ rfl rfl) ?_
   refine z6 ?_
   refine q8 (q7 hT ?_)
   refine z6 (x7 (fun h=>?_) (fun h=>?_))
   ·refine q8 (q7 hT ?_)
    refine Q8 (q3y 2 1 rfl) ?_
    refine x6 ?_
    exact y9 [] ⟨rfl,rfl⟩ rfl
   ·have h:=of_decide_eq_false (show decide (((bx b.body).length:Int) > 228)=false from h)
    omega
 |false=>
  have e:b.sld=([],1):=by unfold Blk.sld;rw[hn]
  have wn:=q8k b
  rw[hn]at wn
  rw[e]
  refine u9 hT q9x rfl rfl q9y rfl ?_
  refine q8 (q7 hT ?_)
  refine Q8 (Q6 0 b.pv rfl rfl) ?_
  refine q8 (z7 (q8 (q7 hT ?_)))
  refine x8 (u5 wn _ rfl rfl) ?_
  refine z6 ?_
  refine q8 (q7 hT ?_)
  refine Q8 (q3y 2 1 rfl) ?_
  refine x6 ?_
  exact y9 [] ⟨rfl,rfl⟩ rfl
def z0y:y7→Nat
 |[]=>0
 |c :: r=>z0y r*256+c.toNat
theorem x9w:∀ l:y7,z0y l<256 ^ l.length
 |[]=>by simp[z0y]
 |c :: r=>by
  have ih:=x9w r
  have hc:=c.toNat_lt
  rw[z0y,List.length_cons,Nat.pow_succ]
  omega
theorem v8d (n c:Nat)(hn:n<4294967296)(hc:c<256):IntKind.i64.wrap ((BitVec.ofInt 64 (IntKind.i64.wrap ((n:Int)*2 ^ (min ((8:Nat):Int).toNat 64))) ||| BitVec.ofInt 64 (IntKind.i64.wrap (c:Int))).toNat:Int)=((n*256+c:Nat):Int):=by
 have e1:IntKind.i64.wrap ((n:Int)*2 ^ (min ((8:Nat):Int).toNat 64))=((n*256:Nat):Int):=by
  show IntKind.i64.wrap ((n:Int)*256)=_
  rw[x9 _ (by omega) (by omega)];omega
 rw[e1,x9 (c:Int) (by omega) (by omega)]
 have e2:(BitVec.ofInt 64 ((n*256:Nat):Int) ||| BitVec.ofInt 64 (c:Int)).toNat=n*256+c:=by
  rw[BitVec.toNat_or,BitVec.toNat_ofInt,BitVec.toNat_ofInt]
  rw[show (((n*256:Nat):Int) % ((2 ^ 64:Nat):Int)).toNat=n*256 by omega,show ((c:Int) % ((2 ^ 64:Nat):Int)).toNat=c by omega]
  have:=Nat.shiftLeft_add_eq_or_of_lt (show c<2 ^ 8 from hc) n
  rw[Nat.shiftLeft_eq]at this
  exact this.symm
 rw[e2,x9 _ (by omega) (by omega)]
def q2i (s:y7)(at_ w:Nat):Nat:=z0y ((s.drop at_).take w)
theorem q4e (s:y7)(at_ w:Nat)(hw:w≤4)(hs:at_+w≤s.length)(hl:s.length≤1000000):AF Tryz.prog y5b [bA s,i64 at_,i64 w] [] (Q0 (i64 (q2i s at_ w:Nat)) []):=by
 refine u9 hT y5c rfl rfl y5d rfl ?_
 refine q8 (q7 hT ?_)
 refine q8 (q7 hT ?_)
 refine q8 (q8 (q7 hT ?_))
 refine z7 ?_
 refine w7 (fun m st=>∃ (j v:Int),j=(m:Int) - 1∧m≤w∧v=(z0y ((s.drop (at_+m)).take (w - m)):Nat)∧st=⟨⟨26,[(0,bA s),(1,i64 at_),(7,i64 v),(8,i64 j)]⟩,[]⟩) w ⟨⟨26,_⟩,[]⟩ (q9 [] [0,1,7,8] rfl) ⟨_,0,?_,Nat.le_refl _,by rw[Nat.sub_self,List.take_zero];rfl,rfl⟩ ?_
 ·exact x9 _ (by omega) (by omega)
 rintro m st ⟨j,v,hj,hm,hv,rfl⟩
 refine q8 (q8 (q7 hT ?_))
 refine z6 (x7 (fun h=>?_) (fun h=>?_))
 ·have h:=of_decide_eq_true (show decide (j≥0)=true from h)
  obtain⟨m,rfl⟩:∃ k,m=k+1:=⟨m - 1,by omega⟩
  have hj:j=(m:Int):=by omega
  subst hj
  have hi:at_+m<s.length:=by omega
  have hx:=List.getElem?_eq_getElem hi
  have hdr:s.drop (at_+m)=s[at_+m] :: s.drop (at_+(m+1)):=List.drop_eq_getElem_cons hi
  generalize s[at_+m]=c at hx hdr
  have hc:=c.toNat_lt
  have e1:IntKind.i64.wrap ((at_:Int)+(m:Int))=((at_+m:Nat):Int):=by rw[x9 _ (by omega) (by omega)];omega
  have hxp:(bx s)[(IntKind.i64.wrap ((at_:Int)+(m:Int))).toNat]?=some [u8 c]:=by rw[e1,Int.toNat_natCast];exact x5a hx
  have hL:z0y ((s.drop (at_+m)).take (w - m))=z0y ((s.drop (at_+(m+1))).take (w - (m+1)))*256+c.toNat:=by
   rw[hdr,show w - m=(w - (m+1))+1 by omega,List.take_succ_cons];rfl
  have hlt:=x9w ((s.drop (at_+(m+1))).take (w - (m+1)))
  have hpw:256 ^ ((s.drop (at_+(m+1))).take (w - (m+1))).length≤256 ^ 3:=Nat.pow_le_pow_right (by omega) (by rw[List.length_take];omega)
  subst hv
  generalize z0y ((s.drop (at_+(m+1))).take (w - (m+1)))=n at hL hlt
  have ho:=v8d n c.toNat (by omega) hc
  refine z9 ?_
  refine q8 (z7 (q7 hT ?_))
  refine⟨by rw[e1];omega,u7 hxp ?_⟩
  refine q7 hT ?_
  refine⟨m,by omega,_,q9 [] [0,1,7,8] rfl,IntKind.i64.wrap ((m:Int) - 1),_,x9 _ (by omega) (by omega),by omega,?_,rfl⟩
  rw[hL];exact ho
 ·have h:=of_decide_eq_false (show decide (j≥0)=false from h)
  have hm0:m=0:=by omega
  subst hm0
  refine u0 ?_
  refine q8 (q7 hT ?_)
  refine x6 ?_
  rw[Nat.add_zero,Nat.sub_zero]at hv
  subst hv
  exact y9 [] ⟨rfl,rfl⟩ rfl
end Go.Proofs.YtinfbclgkghgaaaGreat.AL
namespace Go.Proofs.YtinfbclgkghgaaaGreat.AL
open Go Go.Proofs
theorem y1d (s t:y7):AF Tryz.prog y9d [bA s,bA t] [] (Q0 (bl (s==t)) []):=by
 refine u9 hT y9e rfl rfl y9f rfl ?_
 refine q8 (q7 hT ?_)
 refine q8 (q7 hT ?_)
 refine⟨s,rfl,?_⟩
 refine⟨t,rfl,?_⟩
 refine⟨s==t,by rw[ByteArray.toList_eq,ByteArray.toList_eq],?_⟩
 refine x6 ?_
 exact y9 [] ⟨rfl,rfl⟩ rfl
abbrev u7v (m:Int):ABlk:=.cells x9e [.ref 1 0,i64 m]
abbrev hH (D:Dev)(m:Int):List ABlk:=[u7v m,q3r D 2 3,.row Z9 4 (cx D.cells),.row Z1 2 (wx D.waits)]
abbrev w6e (a:Int)(s:y7):AV:=.agg [i64 a,bA s]
def Dev.hhas (D:Dev)(a:Int)(s:y7):(Bool × Int) × Dev:=match (D.read a).1.2==20 with
 |true=>((false,0),(D.read a).2)
 |false=>(((D.read a).1.2==0&&(D.read a).1.1==s,(D.read a).1.2),(D.read a).2)
theorem v8e {D E:Dev}{a:Int}{s x1:y7}{x2:Int}(h:D.read a=((x1,x2),E)):D.hhas a s=(match x2==20 with|true=>((false,0),E)|false=>((x2==0&&x1==s,x2),E)):=by
 unfold Dev.hhas;rw[h]
theorem v5g (D:Dev)(m a:Int)(s:y7)(b:Nat)(hD:D.Ok b)(hb:b≤1000000):AFm Tryz.prog 4 y2v [.ref 0 0,w6e a s] (hH D m) (Q0 (.tup [bl (D.hhas a s).1.1,i64 (D.hhas a s).1.2]) (hH (D.hhas a s).2 m)):=by
 have big:=hD.big hb
 have rd:=x1e D a big.2.1 big.2.2.1 big.2.2.2
 rcases hr:D.read a with ⟨⟨x1,x2⟩,E⟩
 have he:=v8e (s:=s) hr
 rw[hr]at rd
 generalize D.hhas a s=Z at he
 refine Q9 4 hT y2w rfl rfl y2x rfl rfl ?_
 refine q8 (q7 hT ?_)
 refine Q8 (Q6 4 [.raw (.int .i64 a),bP s] rfl rfl) ?_
 refine y8 ⟨⟨29,[(3,.p (.box [.raw (.int .i64 a),bP s])),(6,bA x1),(7,i64 x2)]⟩,hH E m⟩ True ?_ (fun _=>?_)
 ·refine w9 [6] [] hT z8 (by rfl) ?_
  refine⟨_,_,Q1 [1,2,3] rd rfl rfl rfl,?_⟩
  exact⟨q9 [0,1,2,3] [3,6,7] rfl,trivial⟩
 refine q8 (q8 (q7 hT ?_))
 refine z6 (x7 (fun h=>?_) (fun h=>?_))
 ·have h:(x2==20)=true:=h
  rw[h]at he;subst he
  refine q8 (q7 hT ?_)
  refine x6 ?_
  exact y9 [0,1,2,3] ⟨rfl,rfl⟩ rfl
 ·have h:(x2==20)=false:=h
  rw[h]at he;subst he
  refine z9 ?_
  refine q8 (q7 hT ?_)
  refine x7 (fun h2=>?_) (fun h2=>?_)
  ·refine x8 (u5 (y1d x1 s) _ rfl rfl) ?_
   refine x6 ?_
   have h2:(x2==0)=true:=h2
   rw[h2]
   exact y9 [0,1,2,3] ⟨rfl,rfl⟩ rfl
  ·refine x6 ?_
   have h2:(x2==0)=false:=h2
   rw[h2]
   exact y9 [0,1,2,3] ⟨rfl,rfl⟩ rfl
def Dev.once (D:Dev)(a:Int)(s:y7):(Bool × Int) × Dev:=match (D.write a s).1 != 0 with
 |true=>((false,(D.write a s).1),(D.write a s).2)
 |false=>match (D.write a s).2.flush.1 != 0 with
  |true=>((false,(D.write a s).2.flush.1),(D.write a s).2.flush.2)
  |false=>(D.write a s).2.flush.2.hhas a s
theorem w9e (D:Dev)(m a:Int)(s:y7)(b:Nat)(hD:D.Ok b)(hb:b<1000000):AFm Tryz.prog 2 z9u [.ref 0 0,w6e a s] (hH D m) (Q0 (.tup [bl (D.once a s).1.1,i64 (D.once a s).1.2]) (hH (D.once a s).2 m)):=by
 have big:=hD.big (Nat.le_of_lt hb)
 have w1:=y6g D a s big.2.1
 have ok1:=hD.write a s
 have he:D.once a s=(match (D.write a s).1 != 0 with|true=>((false,(D.write a s).1),(D.write a s).2)|false=>match (D.write a s).2.flush.1 != 0 with|true=>((false,(D.write a s).2.flush.1),(D.write a s).2.flush.2)|false=>(D.write a s).2.flush.2.hhas a s):=rfl
 generalize D.write a s=W at he w1 ok1
 obtain⟨e1,D1⟩:=W
 replace ok1:D1.Ok (b+1):=ok1
 have big1:=ok1.big (show b+1≤1000000 by omega)
 have w2:=y6e D1 big1.1 big1.2.1
 have ok2:=ok1.flush
 replace he:D.once a s=(match e1 != 0 with|true=>((false,e1),D1)|false=>match D1.flush.1 != 0 with|true=>((false,D1.flush.1),D1.flush.2)|false=>D1.flush.2.hhas a s):=he
 generalize D1.flush=W at he w2 ok2
 obtain⟨e2,D2⟩:=W
 replace ok2:D2.Ok (b+1):=ok2
 have w3:=v5g D2 m a s (b+1) ok2 (by omega)
 replace he:D.once a s=(match e1 != 0 with|true=>((false,e1),D1)|false=>match e2 != 0 with|true=>((false,e2),D2)|false=>D2.hhas a s):=he
 generalize D2.hhas a s=Y at he w3
 obtain⟨⟨y1,y2⟩,D3⟩:=Y
 generalize D.once a s=Z at he
 refine Q9 2 hT z9v rfl rfl z9w rfl rfl ?_
 refine q8 (q7 hT ?_)
 refine Q8 (Q6 4 [.raw (.int .i64 a),bP s] rfl rfl) ?_
 refine y8 ⟨⟨33,[(0,.ref 0 0),(3,.p (.box [.raw (.int .i64 a),bP s]))]⟩,hH D1 m⟩ (e1=0) (q8 ?_) ?_
 ·refine w9 [8] [] hT z8 (by rfl) ?_
  refine⟨_,_,Q1 [1,2,3] w1 rfl rfl rfl,?_⟩
  refine q8 (q7 hT ?_)
  refine z6 (x7 (fun h=>?_) (fun h=>?_))
  ·have h:(e1 != 0)=true:=h
   rw[h]at he;subst he
   refine q8 (q7 hT ?_)
   refine x6 ?_
   exact y9 [0,1,5,6] ⟨rfl,rfl⟩ rfl
  ·have h:(e1 != 0)=false:=h
   exact z9 ⟨q9 [0,1,5,6] [0,3] rfl,by simpa using h⟩
 rintro h1
 rw[show (e1 != 0)=false by simpa using h1]at he
 refine y8 ⟨⟨33,[(0,.ref 0 0),(3,.p (.box [.raw (.int .i64 a),bP s]))]⟩,hH D2 m⟩ (e2=0) (q8 (q7 hT ?_)) ?_
 ·refine x8 (Q1 [1,2,3] w2 rfl rfl rfl) ?_
  refine q8 (q7 hT ?_)
  refine z6 (x7 (fun h=>?_) (fun h=>?_))
  ·have h:(e2 != 0)=true:=h
   rw[h]at he;subst he
   refine q8 (q7 hT ?_)
   refine x6 ?_
   exact y9 [0,1,4,5] ⟨rfl,rfl⟩ rfl
  ·have h:(e2 != 0)=false:=h
   exact z9 ⟨q9 [0,1,4,5] [0,3] rfl,by simpa using h⟩
 rintro h2
 rw[show (e2 != 0)=false by simpa using h2]at he
 subst he
 refine q8 (q7 hT ?_)
 refine x8 (Q1 [0,1,2,3] w3 rfl rfl rfl) ?_
 refine x6 ?_
 exact y9 [0,1,2,3] ⟨rfl,rfl⟩ rfl
end Go.Proofs.YtinfbclgkghgaaaGreat.AL
namespace Go.Proofs.YtinfbclgkghgaaaGreat.AL
open Go Go.Proofs Go.Proofs.YtinfbclgkghgaaaGreat.AL.Crc
def Blk.zero:Blk:=⟨0,0,0,0,0,[]⟩
def z7r (s:y7):Blk:=⟨((s.getD 2 0).toNat:Int),(q2i s 4 4:Nat),(q2i s 8 4:Nat),(q2i s 12 4:Nat),(q2i s 16 4:Nat),(s.drop 24).take (q2i s 20 2)⟩
def U6 (s:y7):Blk × Int:=match decide (s.length=256) with
 |false=>(Blk.zero,1)
 |true=>match !(q0k s)||decide ((q2i s 20 2:Int) > 228) with
  |true=>(Blk.zero,7)
  |false=>match (z7r s).sld.2 != 0||!(s==(z7r s).sld.1) with
   |true=>(Blk.zero,7)
   |false=>(z7r s,0)
abbrev x1k:List AV:=[i64 0,i64 0,i64 0,i64 0,i64 0,.p (.raw (.slice none 0 0))]
theorem q7b:LessCL x1k [i64 0,i64 0,i64 0,i64 0,i64 0,bA []]:=⟨.inl rfl,.inl rfl,.inl rfl,.inl rfl,.inl rfl,.inr (.inr (.inr ⟨1,rfl,rfl⟩)),trivial⟩
set_option maxRecDepth 20000 in
theorem w3z (s:y7)(hl:s.length≤1000000):AF Tryz.prog x4f [bA s] [] (Q0 (.tup [(U6 s).1.av,i64 (U6 s).2]) []):=by
 have hbl:=u6 s
 refine u9 hT x4g rfl rfl x4h rfl ?_
 refine q8 (q7 hT ?_)
 refine y8 ⟨⟨56,[(0,bA s),(2,.ref 0 0)]⟩,[.cells q1e x1k]⟩ (s.length=256) (q8 (q7 hT ?_)) ?_
 ·refine z6 (x7 (fun h=>?_) (fun h=>?_))
  ·have h:(((bx s).length:Int) != 256)=true:=h
   have hne:s.length≠256:=by rw[hbl]at h;intro e;rw[e]at h;simp at h
   have eo:U6 s=(Blk.zero,1):=by unfold U6;rw[decide_eq_false hne]
   refine q8 (q7 hT ?_)
   refine Q8 (q0z 0 [i64 0,i64 0,i64 0,i64 0,i64 0,bA []] rfl q7b) ?_
   refine x6 ?_
   rw[eo]
   exact y9 [] ⟨rfl,rfl⟩ rfl
  ·have h:(((bx s).length:Int) != 256)=false:=h
   have he:s.length=256:=by
    rw[hbl]at h
    have:(s.length:Int)=256:=by simpa using h
    omega
   exact z9 ⟨q9 [0] [0,2] rfl,he⟩
 intro h256
 have hd:decide (s.length=256)=true:=decide_eq_true h256
 have w20:=q4e s 20 2 (by omega) (by omega) (by omega)
 have w4:=q4e s 4 4 (by omega) (by omega) (by omega)
 have w8:=q4e s 8 4 (by omega) (by omega) (by omega)
 have w12:=q4e s 12 4 (by omega) (by omega) (by omega)
 have w16:=q4e s 16 4 (by omega) (by omega) (by omega)
 refine q8 (q7 hT ?_)
 refine x8 (u5 w20 _ rfl rfl) ?_
 refine y8 ⟨⟨56,[(0,bA s),(2,.ref 0 0),(4,i64 (q2i s 20 2:Nat))]⟩,[.cells q1e x1k]⟩ ((!(q0k s)||decide ((q2i s 20 2:Int) > 228))=false) (q8 (q7 hT ?_)) ?_
 ·refine x8 (u5 (w9c s hl) _ rfl rfl) ?_
  have bad:(!(q0k s)||decide ((q2i s 20 2:Int) > 228))=true→U6 s=(Blk.zero,7):=fun h=>by unfold U6;rw[hd,h]
  refine x7 (fun h=>?_) (fun h=>?_)
  ·have h:(!(q0k s))=true:=h
   refine z6 ?_
   refine q8 (q7 hT ?_)
   refine Q8 (q0z 0 [i64 0,i64 0,i64 0,i64 0,i64 0,bA []] rfl q7b) ?_
   refine x6 ?_
   rw[bad (by rw[h];rfl)]
   exact y9 [] ⟨rfl,rfl⟩ rfl
  ·have h:(!(q0k s))=false:=h
   refine z6 (x7 (fun h2=>?_) (fun h2=>?_))
   ·have h2:decide ((q2i s 20 2:Int) > 228)=true:=h2
    refine q8 (q7 hT ?_)
    refine Q8 (q0z 0 [i64 0,i64 0,i64 0,i64 0,i64 0,bA []] rfl q7b) ?_
    refine x6 ?_
    rw[bad (by rw[h2,Bool.or_true])]
    exact y9 [] ⟨rfl,rfl⟩ rfl
   ·have h2:decide ((q2i s 20 2:Int) > 228)=false:=h2
    exact z9 ⟨q9 [0] [0,2,4] rfl,by rw[h,h2];rfl⟩
 intro hgood
 obtain⟨c2,hc2⟩:∃ c,s[2]?=some c:=⟨_,List.getElem?_eq_getElem (by omega)⟩
 have hg2:(bx s)[(2:Int).toNat]?=some [u8 c2]:=x5a hc2
 obtain⟨K,hK⟩:∃ K:Int,K=IntKind.i64.wrap (c2.toNat:Int):=⟨_,rfl⟩
 refine y8 ⟨⟨56,[(0,bA s),(2,.ref 0 0),(4,i64 (q2i s 20 2:Nat)),(5,.ref 1 0)]⟩,[.cells q1e x1k,.cells q1e [i64 K,i64 (q2i s 4 4:Nat),i64 (q2i s 8 4:Nat),i64 (q2i s 12 4:Nat),i64 (q2i s 16 4:Nat),.p (.raw (.slice none 0 0))]]⟩ True ?_ (fun _=>?_)
 ·refine w9 [13,14] [] hT z8 (by rfl) ?_
  refine⟨by omega,u7 hg2 ?_⟩
  refine⟨_,u5 w4 _ rfl rfl,?_⟩
  refine⟨_,u5 w8 _ rfl rfl,?_⟩
  refine⟨_,u5 w12 _ rfl rfl,?_⟩
  refine⟨_,u5 w16 _ rfl rfl,?_⟩
  refine⟨rfl,?_⟩
  refine⟨rfl,?_⟩
  refine⟨⟨_,u5 w4 _ rfl rfl,rfl⟩,?_⟩
  refine⟨⟨_,u5 w8 _ rfl rfl,rfl⟩,?_⟩
  refine⟨⟨_,u5 w12 _ rfl rfl,rfl⟩,?_⟩
  refine⟨⟨_,u5 w16 _ rfl rfl,rfl⟩,?_⟩
  rw[hK]
  exact⟨q9 [0,1] [0,2,4,5] rfl,trivial⟩
 have hc:=c2.toNat_lt
 rw[x9 _ (by omega) (by omega)]at hK
 rw[Bool.or_eq_false_iff]at hgood
 have hlong:=of_decide_eq_false hgood.2
 have hbo:z7r s=⟨K,(q2i s 4 4:Nat),(q2i s 8 4:Nat),(q2i s 12 4:Nat),(q2i s 16 4:Nat),(s.drop 24).take (q2i s 20 2)⟩:=by
  unfold z7r
  rw[List.getD_eq_getElem?_getD,hc2,hK];rfl
 have eO:∀ b t e,z7r s=b→b.sld=(t,e)→U6 s=match e != 0||!(s==t) with|true=>(Blk.zero,7)|false=>(b,0):=fun b t e h1 h2=>by
  unfold U6
  rw[hd,hgood.1,hgood.2,h1,h2];rfl
 generalize hL:q2i s 20 2=L at hbo hlong
 obtain⟨Y,hY⟩:∃ Y:y7,Y=(s.drop 24).take L:=⟨_,rfl⟩
 have eW:IntKind.i64.wrap (24+(L:Int))=((24+L:Nat):Int):=by rw[x9 _ (by omega) (by omega)];omega
 have eY:((bx s).take (IntKind.i64.wrap (24+(L:Int))).toNat).drop (24:Int).toNat=bx Y:=by
  rw[eW,Int.toNat_natCast,hY,y3j,x5c,show (24:Int).toNat=24 from rfl,List.drop_take,Nat.add_sub_cancel_left]
 have wC:AF Tryz.prog q8j [.p (.sl 1 (((bx s).take (IntKind.i64.wrap (24+(L:Int))).toNat).drop (24:Int).toNat))] [] (Q0 (bA Y) []):=by
  rw[eY];exact x9s Y (by rw[hY,List.length_take,List.length_drop];omega)
 rw[← hY]at hbo
 generalize (q2i s 4 4:Int)=v at hbo
 generalize (q2i s 8 4:Int)=a at hbo
 generalize (q2i s 12 4:Int)=e' at hbo
 generalize (q2i s 16 4:Int)=q at hbo
 have hS:=y6w ⟨K,v,a,e',q,Y⟩
 have eO:=eO _ (Blk.sld ⟨K,v,a,e',q,Y⟩).1 (Blk.sld ⟨K,v,a,e',q,Y⟩).2 hbo rfl
 generalize Blk.sld ⟨K,v,a,e',q,Y⟩=Z at hS eO
 obtain⟨t,e⟩:=Z
 simp only at eO
 refine y8 ⟨⟨56,[(0,bA s),(2,.ref 0 0),(5,.ref 1 0)]⟩,[.cells q1e x1k,.cells q1e [i64 K,i64 v,i64 a,i64 e',i64 q,bA Y]]⟩ True (q7 hT ?_) (fun _=>?_)
 ·refine⟨⟨by omega,?_,?_⟩,?_⟩
  ·show 24≤IntKind.i64.wrap (24+(L:Int))
   rw[eW];omega
  ·show IntKind.i64.wrap (24+(L:Int))≤((bx s).length:Int)
   rw[eW,hbl];omega
  refine x8 (u5 wC _ rfl rfl) ?_
  exact⟨q9 [0,1] [0,2,5] rfl,trivial⟩
 refine y8 ⟨⟨56,[(2,.ref 0 0),(5,.ref 1 0)]⟩,[.cells q1e x1k,.cells q1e [i64 K,i64 v,i64 a,i64 e',i64 q,bA Y]]⟩ ((e != 0||!(s==t))=false) (q8 (q7 hT ?_)) ?_
 ·refine x8 (u5 hS _ rfl rfl) ?_
  refine q8 (q7 hT ?_)
  refine x7 (fun h1=>?_) (fun h1=>?_)
  ·have h1:(e != 0)=true:=h1
   rw[h1]at eO
   refine z6 ?_
   refine q8 (q7 hT ?_)
   refine Q8 (q0z 0 [i64 0,i64 0,i64 0,i64 0,i64 0,bA []] rfl q7b) ?_
   refine x6 ?_
   rw[eO]
   exact y9 [] ⟨rfl,rfl⟩ rfl
  ·have h1:(e != 0)=false:=h1
   rw[h1]at eO
   refine x8 (u5 (y1d s t) _ rfl rfl) ?_
   refine z6 (x7 (fun h2=>?_) (fun h2=>?_))
   ·have h2:(!(s==t))=true:=h2
    rw[h2]at eO
    refine q8 (q7 hT ?_)
    refine Q8 (q0z 0 [i64 0,i64 0,i64 0,i64 0,i64 0,bA []] rfl q7b) ?_
    refine x6 ?_
    rw[eO]
    exact y9 [] ⟨rfl,rfl⟩ rfl
   ·have h2:(!(s==t))=false:=h2
    exact z9 ⟨q9 [0,1] [2,5] rfl,by rw[h1,h2];rfl⟩
 intro h
 rw[h]at eO
 refine q8 (q7 hT ?_)
 refine x6 ?_
 rw[eO]
 exact y9 [] ⟨rfl,rfl⟩ rfl
end Go.Proofs.YtinfbclgkghgaaaGreat.AL
namespace Go.Proofs.YtinfbclgkghgaaaGreat.AL
open Go Go.Proofs Go.Proofs.YtinfbclgkghgaaaGreat.AL.Crc
theorem x9x (n w:Nat)(hn:n<9000000000000000000)(hw:w≤8):AF Tryz.prog z0b [i64 n,i64 w] [] (Q0 (.msl 0 1 0 (bx (leB w n)).length) [.row z4 1 (bx (leB w n))]):=by
 refine u9 hT x4p rfl rfl x4q rfl ?_
 refine q8 (q7 hT ?_)
 refine q8 (q7 hT ?_)
 refine Q8 (Wk.trans (J9 z4 1) (q9u 5 0 1 0 rfl)) ?_
 refine q8 (q8 (q7 hT ?_))
 refine z7 ?_
 refine w7 (fun m s=>∃ (i:Nat) (j v:Int) (L:y7),m+i=w∧j=i∧v=((n / 256 ^ i:Nat):Int)∧L=leB i n∧s=⟨⟨21,[(0,i64 v),(1,i64 w),(5,.msl 0 1 0 (bx L).length),(6,i64 j)]⟩,[.row z4 1 (bx L)]⟩) w ⟨⟨21,_⟩,[_]⟩ (q9 [0] [0,1,5,6] rfl) ⟨0,0,_,[],rfl,rfl,by rw[Nat.pow_zero,Nat.div_one],rfl,rfl⟩ ?_
 rintro m s ⟨i,j,v,L,hmi,rfl,rfl,hL,rfl⟩
 have hLl:L.length=i:=by rw[hL,J0]
 have hbl:=u6 L
 refine q8 (q8 (q7 hT ?_))
 refine z6 (x7 (fun h=>?_) (fun h=>?_))
 ·have hi:i<w:=by
   have:=of_decide_eq_true (show decide ((i:Int)<(w:Int))=true from h)
   omega
  refine z9 ?_
  refine y8 ⟨⟨21,[(0,i64 ((n / 256 ^ (i+1):Nat):Int)),(1,i64 w),(5,.msl 0 1 0 (bx (L++[UInt8.ofNat (n / 256 ^ i)])).length),(6,i64 i)]⟩,[.row z4 1 (bx (L++[UInt8.ofNat (n / 256 ^ i)]))]⟩ True (z7 (q8 (X6 (fun k=>Nat.beq 4 k) hT ?_))) (fun _=>?_)
  ·refine⟨⟨rfl,rfl⟩,?_⟩
   refine⟨rfl,⟨?_,?_⟩,?_⟩
   ·show ((bx L).length+1)*1≤140737488355328
    omega
   ·show (bx L).length+1≤140737488355328
    omega
   refine q7 hT ?_
   have hq:n / 256 ^ i≤n:=Nat.div_le_self _ _
   rw[y3h,show u8 (UInt8.ofNat (n / 256 ^ i))=PV.raw (.int .u8 (IntKind.u8.wrap (((n / 256 ^ i:Nat):Int).tmod 256))) by rw[v5e],y3i,← y6t _ 256 (by omega)]
   exact⟨q9 [1] [0,1,5,6] rfl,trivial⟩
  ·refine q7 hT ?_
   refine⟨m - 1,by omega,_,q9 [0] [0,1,5,6] rfl,i+1,IntKind.i64.wrap ((i:Int)+1),_,_,by omega,?_,rfl,by rw[hL,z7p],rfl⟩
   rw[x9 _ (by omega) (by omega)];rfl
 ·have hi:¬ (i:Int)<(w:Int):=of_decide_eq_false h
  have hi4:i=w:=by omega
  subst hi4
  refine u0 ?_
  refine q8 (q7 hT ?_)
  refine x6 ?_
  subst hL
  exact y9 [0] ⟨rfl,rfl⟩ rfl
theorem q7c (n w:Nat)(hn:n<9000000000000000000)(hw:w≤8):AF Tryz.prog z0b [i64 n,i64 w] [] (Q0 (bA (leB w n)) []):=z8x (x9x n w hn hw) rfl
theorem q8m (b:Blk):AF Tryz.prog y2i [b.av] [] (Q0 (bl b.nums) []):=by
 refine u9 hT y2j rfl rfl y2k rfl ?_
 refine q8 (q7 hT ?_)
 refine Q8 (Q6 0 b.pv rfl rfl) ?_
 have hk:∀ n:Int,X2 n=(!(decide (n<0))&&!(decide (n > 4294967295))):=fun n=>by
  unfold X2
  rw[← decide_not,← decide_not]
  congr 1
  ·exact decide_eq_decide.mpr (by omega)
  ·exact decide_eq_decide.mpr (by omega)
 unfold Blk.nums
 refine q8 (X6 (fun k=>Nat.beq 8 k) hT ?_)
 refine⟨⟨rfl,rfl⟩,?_⟩
 generalize hl:[b.vol,b.addr,b.epoch,b.seq]=l
 refine y8 ⟨⟨38,[(1,.p (.box b.pv))]⟩,[]⟩ (l.all X2=true) ?_ ?_
 ·refine Q8 (s2:=⟨⟨38,[(1,.p (.box b.pv)),(3,.p (.sl 1 (ix l)))]⟩,[]⟩) (by rw[← hl];exact q9 [] [1,3] rfl) ?_
  have hll:l.length=4:=by rw[← hl];rfl
  refine q8 (q7 hT ?_)
  refine z7 ?_
  refine w7 (fun n s=>∃ (i:Nat) (j:Int),n+i=4∧j=i∧(l.take i).all X2=true∧s=⟨⟨38,[(1,.p (.box b.pv)),(3,.p (.sl 1 (ix l))),(4,i64 j)]⟩,[]⟩) 4 ⟨⟨38,_⟩,[]⟩ (q9 [] [1,3,4] rfl) ⟨0,0,rfl,rfl,rfl,rfl⟩ ?_
  rintro n s ⟨i,j,hni,rfl,ht,rfl⟩
  refine q8 (q8 (q7 hT ?_))
  refine z6 (x7 (fun h=>?_) (fun h=>?_))
  ·have hi:i<l.length:=by
    have:=of_decide_eq_true (show decide ((i:Int)<4)=true from h)
    omega
   have hx:=List.getElem?_eq_getElem hi
   have hmem:=List.getElem_mem hi
   have htk:l.take (i+1)=l.take i++[l[i]]:=by rw[List.take_add_one,hx];rfl
   generalize l[i]=c at hx htk hmem
   have hxp:(ix l)[((i:Nat):Int).toNat]?=some [.raw (.int .i64 c)]:=by rw[Int.toNat_natCast];exact ixg hx
   have bad:X2 c=false→l.all X2=false:=fun h=>by
    rw[List.all_eq_false];exact⟨c,hmem,by rw[h];simp⟩
   refine z9 ?_
   refine y8 ⟨⟨38,[(1,.p (.box b.pv)),(3,.p (.sl 1 (ix l))),(4,i64 i)]⟩,[]⟩ (X2 c=true) (z7 (q8 (q7 hT ?_))) ?_
   ·refine⟨Int.natCast_nonneg _,u7 hxp ?_⟩
    refine x7 (fun h2=>?_) (fun h2=>?_)
    ·have h2:decide (c<0)=true:=h2
     refine z6 ?_
     refine q8 (q7 hT ?_)
     refine x6 ?_
     rw[bad (by rw[hk,h2];rfl),Bool.and_false]
     exact y9 [] ⟨rfl,rfl⟩ rfl
    ·have h2:decide (c<0)=false:=h2
     refine⟨Int.natCast_nonneg _,u7 hxp ?_⟩
     refine z6 (x7 (fun h3=>?_) (fun h3=>?_))
     ·have h3:decide (c > 4294967295)=true:=h3
      refine q8 (q7 hT ?_)
      refine x6 ?_
      rw[bad (by rw[hk,h2,h3];rfl),Bool.and_false]
      exact y9 [] ⟨rfl,rfl⟩ rfl
     ·have h3:decide (c > 4294967295)=false:=h3
      exact z9 ⟨q9 [] [1,3,4] rfl,by rw[hk,h2,h3];rfl⟩
   ·intro hc
    refine q7 hT ?_
    refine⟨n - 1,by omega,_,q9 [] [1,3,4] rfl,i+1,IntKind.i64.wrap ((i:Int)+1),by omega,?_,?_,rfl⟩
    ·rw[x9 _ (by omega) (by omega)];rfl
    ·rw[htk,List.all_append,ht];simp[hc]
  ·have hi:¬ (i:Int)<4:=of_decide_eq_false h
   have hil:i=l.length:=by omega
   subst hil
   rw[List.take_length]at ht
   refine u0 ?_
   exact⟨q9 [] [1] rfl,ht⟩
 intro h
 rw[h,Bool.and_true]
 refine q8 (q7 hT ?_)
 refine x7 (fun h1=>?_) (fun h1=>?_)
 ·rw[show decide (b.kind≥1)=true from h1]
  refine x6 ?_
  exact y9 [] ⟨rfl,rfl⟩ rfl
 ·rw[show decide (b.kind≥1)=false from h1]
  refine x6 ?_
  exact y9 [] ⟨rfl,rfl⟩ rfl
end Go.Proofs.YtinfbclgkghgaaaGreat.AL
