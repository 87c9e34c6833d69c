/- A part of the proof. -/
import Derived.Test.YtinfbclgkghgaaaGreatSnupG
/- The document's check of bytes: in which bits do two numbers differ. -/
namespace Go.Proofs.YtinfbclgkghgaaaGreat.AL
open Go Go.Proofs Go.Proofs.YtinfbclgkghgaaaGreat.AL.Crc
set_option maxRecDepth 8000 in
theorem y8c (a b:Nat)(ha:a<4294967296)(hb:b<4294967296):AF Tryz.prog q3w [i64 a,i64 b] [] (v9 (i64 (a ^^^ b:Nat)) []):=by
 refine v8 hT y3r rfl rfl y3s rfl ?_
 refine q8 (q7 hT ?_)
 refine q8 (q7 hT ?_)
 refine q8 (q7 hT ?_)
 refine q8 (q8 (q7 hT ?_))
 refine z3 ?_
 refine y8 (fun n s=>∃ (k:Nat) (k':Int) (d p x y:Int),n+k=32∧k'=k∧d=q5d a b k∧p=((2 ^ k:Nat):Int)∧x=((a / 2 ^ k:Nat):Int)∧y=((b / 2 ^ k:Nat):Int)∧s=⟨⟨27,[(0,i64 x),(1,i64 y),(5,i64 d),(6,i64 p),(7,i64 k')]⟩,[]⟩) 32 ⟨⟨27,_⟩,[]⟩ (q9 [] [0,1,5,6,7] rfl) ⟨0,0,0,1,_,_,rfl,rfl,rfl,rfl,?_,?_,rfl⟩ ?_
 ·rw[Nat.pow_zero,Nat.div_one]
 ·rw[Nat.pow_zero,Nat.div_one]
 rintro n s ⟨k,k',d,p,x,y,hk,rfl,rfl,rfl,rfl,rfl,rfl⟩
 have hd:=v4t a b k
 have hm:∀ q:Nat,((q:Int).tmod 2)=((q % 2:Nat):Int):=fun q=>by
  rw[Int.tmod_eq_emod_of_nonneg (Int.natCast_nonneg _)];exact(Int.natCast_emod q 2).symm
 have hq:∀ q:Nat,q<4294967296→IntKind.i64.wrap ((q:Int).tdiv 2)=((q / 2:Nat):Int):=fun q hq=>by
  rw[Int.tdiv_eq_ediv_of_nonneg (Int.natCast_nonneg _),y7 _ (by omega) (by omega)];omega
 refine q8 (q8 (q7 hT ?_))
 refine z2 (y4 (fun h=>?_) (fun h=>?_))
 ·have hk32:k<32:=by
   have:=of_decide_eq_true (show decide ((k:Int)<32)=true from h)
   omega
  have hp:2 ^ k≤2 ^ 31:=Nat.pow_le_pow_right (by omega) (by omega)
  have hp2:2 ^ (k+1)=2 ^ k*2:=Nat.pow_succ ..
  have hdx:a / 2 ^ k<4294967296:=Nat.lt_of_le_of_lt (Nat.div_le_self _ _) ha
  have hdy:b / 2 ^ k<4294967296:=Nat.lt_of_le_of_lt (Nat.div_le_self _ _) hb
  have hx2:a / 2 ^ (k+1)=a / 2 ^ k / 2:=by rw[hp2,Nat.div_div_eq_div_mul]
  have hy2:b / 2 ^ (k+1)=b / 2 ^ k / 2:=by rw[hp2,Nat.div_div_eq_div_mul]
  refine z5 ?_
  refine z8 ⟨⟨27,[(0,i64 ((a / 2 ^ (k+1):Nat):Int)),(1,i64 ((b / 2 ^ (k+1):Nat):Int)),(5,i64 (q5d a b (k+1):Nat)),(6,i64 ((2 ^ (k+1):Nat):Int)),(7,i64 (k:Nat))]⟩,[]⟩ True (z3 ?_) (fun _=>?_)
  ·refine z8 ⟨⟨27,[(0,i64 ((a / 2 ^ k:Nat):Int)),(1,i64 ((b / 2 ^ k:Nat):Int)),(5,i64 (q5d a b (k+1):Nat)),(6,i64 ((2 ^ k:Nat):Int)),(7,i64 (k:Nat))]⟩,[]⟩ True (q8 (q7 hT ?_)) (fun _=>?_)
   ·refine z2 (y4 (fun h1=>?_) (fun h1=>?_))
    ·have h1:(((a / 2 ^ k:Nat):Int).tmod 2 != ((b / 2 ^ k:Nat):Int).tmod 2)=true:=h1
     rw[hm,hm]at h1
     have h2:(a / 2 ^ k % 2 != b / 2 ^ k % 2)=true:=by
      rw[bne_iff_ne]at h1 ⊢;omega
     have e:q5d a b (k+1)=q5d a b k+2 ^ k:=by
      conv=>lhs;unfold q5d
      rw[h2]
     refine q7 hT ?_
     have e2:IntKind.i64.wrap (((q5d a b k:Nat):Int)+((2 ^ k:Nat):Int))=((q5d a b (k+1):Nat):Int):=by
      rw[e,y7 _ (by omega) (by omega)];omega
     rw[← e2]
     exact⟨q9 [] [0,1,5,6,7] rfl,trivial⟩
    ·have h1:(((a / 2 ^ k:Nat):Int).tmod 2 != ((b / 2 ^ k:Nat):Int).tmod 2)=false:=h1
     rw[hm,hm]at h1
     have h2:(a / 2 ^ k % 2 != b / 2 ^ k % 2)=false:=by
      rw[bne_eq_false_iff_eq]at h1 ⊢;omega
     have e:q5d a b (k+1)=q5d a b k:=by
      conv=>lhs;unfold q5d
      rw[h2]
     rw[e]
     exact z5 ⟨q9 [] [0,1,5,6,7] rfl,trivial⟩
   ·refine q8 (q7 hT ?_)
    refine q8 (q7 hT ?_)
    refine q7 hT ?_
    have e3:IntKind.i64.wrap (((2 ^ k:Nat):Int)*2)=((2 ^ (k+1):Nat):Int):=by
     rw[hp2,y7 _ (by omega) (by omega)];omega
    rw[hx2,hy2,← hq _ hdx,← hq _ hdy,← e3]
    exact⟨q9 [] [0,1,5,6,7] rfl,trivial⟩
  ·refine q7 hT ?_
   refine⟨n - 1,by omega,_,q9 [] [0,1,5,6,7] rfl,k+1,IntKind.i64.wrap ((k:Int)+1),_,_,_,_,by omega,?_,rfl,rfl,rfl,rfl,rfl⟩
   rw[y7 _ (by omega) (by omega)];rfl
 ·have hk32:k=32:=by
   have:=of_decide_eq_false (show decide ((k:Int)<32)=false from h)
   omega
  subst hk32
  refine x9 ?_
  refine q8 (q7 hT ?_)
  refine y5 ?_
  have e:q5d a b 32=(a ^^^ b:Nat):=by
   rw[y5d]
   exact Nat.mod_eq_of_lt (Nat.xor_lt_two_pow (show a<2 ^ 32 from ha) (show b<2 ^ 32 from hb))
  rw[← e]
  exact z9 [] ⟨rfl,rfl⟩ rfl
theorem z6k (x y:W):AF Tryz.prog q3w [i64 (x.toNat:Int),i64 (y.toNat:Int)] [] (v9 (i64 ((x ^^^ y).toNat:Int)) []):=by
 have:=y8c x.toNat y.toNat x.isLt y.isLt
 rw[BitVec.toNat_xor];exact this
end Go.Proofs.YtinfbclgkghgaaaGreat.AL
/- The document's check of bytes: sums,seals. -/
namespace Go.Proofs.YtinfbclgkghgaaaGreat.AL
open Go Go.Proofs Go.Proofs.YtinfbclgkghgaaaGreat.AL.Crc
theorem y5e (q k:Nat):((q:Int).tmod (k:Int))=((q % k:Nat):Int):=by
 rw[Int.tmod_eq_emod_of_nonneg (Int.natCast_nonneg _)];exact(Int.natCast_emod q k).symm
theorem z6m (q k:Nat)(hq:q<9223372036854775808):IntKind.i64.wrap ((q:Int).tdiv (k:Int))=((q / k:Nat):Int):=by
 rw[Int.tdiv_eq_ediv_of_nonneg (Int.natCast_nonneg _),← Int.natCast_ediv]
 have:q / k≤q:=Nat.div_le_self _ _
 generalize q / k=r at this
 exact y7 _ (by omega) (by omega)
theorem v4u (c:UInt8):(wd c).toNat=c.toNat:=by
 unfold wd
 rw[BitVec.toNat_ofNat,Nat.mod_eq_of_lt (Nat.lt_trans c.toNat_lt (by decide))]
theorem v4v (x:W):IntKind.i64.wrap ((x.toNat:Int).tdiv 2)=((x >>> 1).toNat:Int):=by
 have:=x.isLt
 rw[show (2:Int)=((2:Nat):Int) from rfl,z6m _ _ (by omega),BitVec.toNat_ushiftRight,Nat.shiftRight_eq_div_pow]
theorem v9f (x:W):((x.toNat:Int).tmod 2==1)=x.getLsbD 0:=by
 rw[show (2:Int)=((2:Nat):Int) from rfl,y5e,← BitVec.testBit_toNat,Nat.testBit_zero]
 rcases Nat.mod_two_eq_zero_or_one x.toNat with h|h <;> rw[h] <;> decide
set_option maxRecDepth 8000 in
theorem w8t (l:z7)(hl:l.length≤1000000):AF Tryz.prog x6w [bA l] [] (v9 (i64 ((sum l).toNat:Int)) []):=by
 refine v8 hT x6x rfl rfl x6y rfl ?_
 refine q8 (q7 hT ?_)
 refine q8 (q7 hT ?_)
 refine z8 ⟨⟨34,[(3,i64 ((run all1 l).toNat:Int))]⟩,[]⟩ True (q8 (q7 hT ?_)) (fun _=>?_)
 ·refine z3 ?_
  refine y8 (fun n s=>∃ (i:Nat) (j v:Int),n+i=l.length∧j=i∧v=((run all1 (l.take i)).toNat:Int)∧s=⟨⟨34,[(0,bA l),(3,i64 v),(4,i64 j)]⟩,[]⟩) l.length ⟨⟨34,_⟩,[]⟩ (q9 [] [0,3,4] rfl) ⟨0,0,_,rfl,rfl,(by decide:(4294967295:Int)=(all1.toNat:Int)),rfl⟩ ?_
  rintro n s ⟨i,j,v,hni,rfl,hv,rfl⟩
  refine q8 (q8 (q7 hT ?_))
  refine z2 (y4 (fun h=>?_) (fun h=>?_))
  ·have hi:i<l.length:=by
    have:=of_decide_eq_true (show decide ((i:Int)<((bx l).length:Int))=true from h)
    rw[w9]at this;omega
   have hx:=List.getElem?_eq_getElem hi
   have htk:l.take (i+1)=l.take i++[l[i]]:=by rw[List.take_add_one,hx];rfl
   generalize l[i]=c at hx htk
   have hxp:(bx l)[((i:Nat):Int).toNat]?=some [u8 c]:=by rw[Int.toNat_natCast];exact x3x hx
   have hrun:run all1 (l.take (i+1))=stN 8 (run all1 (l.take i) ^^^ wd c):=by rw[htk,x9d];rfl
   subst hv
   generalize run all1 (l.take i)=x at hrun
   have w:AF Tryz.prog q3w [i64 (x.toNat:Int),i64 (IntKind.i64.wrap (c.toNat:Int))] [] (v9 (i64 ((x ^^^ wd c).toNat:Int)) []):=by
    have hc:=c.toNat_lt
    rw[y7 _ (by omega) (by omega),← v4u];exact z6k x (wd c)
   refine z5 ?_
   refine z8 ⟨⟨34,[(0,bA l),(3,i64 ((run all1 (l.take (i+1))).toNat:Int)),(4,i64 i)]⟩,[]⟩ True (z3 (q8 (q7 hT ?_))) (fun _=>?_)
   ·rw[hrun]
    refine⟨Int.natCast_nonneg _,v7 hxp ?_⟩
    refine y9 w ?_
    generalize x ^^^ wd c=z
    refine q8 (q7 hT ?_)
    refine z3 ?_
    refine y8 (fun n s=>∃ (k:Nat) (j v:Int),n+k=8∧j=k∧v=((stN k z).toNat:Int)∧s=⟨⟨34,[(0,bA l),(3,i64 v),(4,i64 i),(5,i64 j)]⟩,[]⟩) 8 ⟨⟨34,_⟩,[]⟩ (q9 [] [0,3,4,5] rfl) ⟨0,0,_,rfl,rfl,rfl,rfl⟩ ?_
    rintro m s ⟨k,j,v,hmk,rfl,hv,rfl⟩
    refine q8 (q8 (q7 hT ?_))
    refine z2 (y4 (fun h=>?_) (fun h=>?_))
    ·have hk:k<8:=by
      have:=of_decide_eq_true (show decide ((k:Int)<8)=true from h)
      omega
     refine z5 ?_
     refine z8 ⟨⟨34,[(0,bA l),(3,i64 ((stN (k+1) z).toNat:Int)),(4,i64 i),(5,i64 k)]⟩,[]⟩ True (z3 ?_) (fun _=>?_)
     ·rw[x9f,w6c]
      subst hv
      generalize stN k z=x
      refine q8 (q7 hT ?_)
      refine q8 (q7 hT ?_)
      refine q8 (q7 hT ?_)
      refine z2 (y4 (fun h=>?_) (fun h=>?_))
      ·have h:((x.toNat:Int).tmod 2==1)=true:=h
       rw[v9f]at h
       have w2:AF Tryz.prog q3w [i64 (IntKind.i64.wrap ((x.toNat:Int).tdiv 2)),i64 2197175160] [] (v9 (i64 (((x >>> 1) ^^^ poly).toNat:Int)) []):=by
        rw[v4v,show (2197175160:Int)=(poly.toNat:Int) by decide];exact z6k _ poly
       refine q7 hT ?_
       refine y9 w2 ?_
       rw[h]
       exact⟨q9 [] [0,3,4,5] rfl,trivial⟩
      ·have h:((x.toNat:Int).tmod 2==1)=false:=h
       rw[v9f]at h
       refine z5 ?_
       rw[h]
       show Wk _ _ ⟨⟨34,[(0,_),(3,i64 ((x >>> 1).toNat:Int)),(4,_),(5,_)]⟩,_⟩∧True
       rw[← v4v]
       exact⟨q9 [] [0,3,4,5] rfl,trivial⟩
     ·refine q7 hT ?_
      refine⟨m - 1,by omega,_,q9 [] [0,3,4,5] rfl,k+1,IntKind.i64.wrap ((k:Int)+1),_,by omega,?_,rfl,rfl⟩
      rw[y7 _ (by omega) (by omega)];rfl
    ·have hk:¬ (k:Int)<8:=of_decide_eq_false h
     have hk8:k=8:=by omega
     subst hk8 hv
     refine x9 ?_
     exact⟨q9 [] [0,3,4] rfl,trivial⟩
   ·refine q7 hT ?_
    refine⟨n - 1,by omega,_,q9 [] [0,3,4] rfl,i+1,IntKind.i64.wrap ((i:Int)+1),_,by omega,?_,rfl,rfl⟩
    rw[y7 _ (by omega) (by omega)];rfl
  ·have hi:¬ (i:Int)<((bx l).length:Int):=of_decide_eq_false h
   rw[w9]at hi
   have hil:i=l.length:=by omega
   subst hil hv
   rw[List.take_length]
   refine x9 ?_
   exact⟨q9 [] [3] rfl,trivial⟩
 ·refine q8 (q7 hT ?_)
  refine y5 ?_
  refine z9 [] ⟨?_,rfl⟩ rfl
  show AV.p (.raw (.int .i64 (IntKind.i64.wrap (4294967295 - ((run all1 l).toNat:Int)))))=_
  have h1:=(run all1 l).isLt
  have e:(sum l).toNat=4294967295 - (run all1 l).toNat:=by
   unfold sum
   have:run all1 l ^^^ all1 = ~~~ (run all1 l):=by
    rw[← BitVec.xor_allOnes];rfl
   rw[this,BitVec.toNat_not]
  rw[y7 _ (by omega) (by omega),e]
  congr 3
  omega
end Go.Proofs.YtinfbclgkghgaaaGreat.AL
namespace Go.Proofs.YtinfbclgkghgaaaGreat.AL.Gf
def w3w (n j:Nat):Nat:=match n.testBit (15 - j) with|true=>n ^^^ (285*2 ^ (7 - j))|false=>n
def redN (n:Nat):Nat→Nat
 |0=>n
 |j+1=>w3w (redN n j) j
def accN (a b:Nat):Nat→Nat
 |0=>0
 |k+1=>match b.testBit k with|true=>accN a b k ^^^ (a*2 ^ k)|false=>accN a b k
theorem u7p (a b c:Nat):(a ^^^ c) ^^^ (b ^^^ c)=a ^^^ b:=by
 rw[Nat.xor_assoc,Nat.xor_comm b c,← Nat.xor_assoc c,Nat.xor_self,Nat.zero_xor]
theorem v4w (x y j:Nat):w3w (x ^^^ y) j=w3w x j ^^^ w3w y j:=by
 unfold w3w
 rw[Nat.testBit_xor]
 cases x.testBit (15 - j) <;> cases y.testBit (15 - j)
 ·rfl
 ·show (x ^^^ y) ^^^ _=x ^^^ (y ^^^ _);rw[Nat.xor_assoc]
 ·show (x ^^^ y) ^^^ _=(x ^^^ _) ^^^ y;rw[Nat.xor_assoc,Nat.xor_comm y,← Nat.xor_assoc]
 ·show x ^^^ y=(x ^^^ _) ^^^ (y ^^^ _);rw[u7p]
theorem x9g (x y:Nat):∀ j,redN (x ^^^ y) j=redN x j ^^^ redN y j
 |0=>rfl
 |j+1=>by unfold redN;rw[x9g x y j,v4w]
theorem y9u:∀ j,redN 0 j=0
 |0=>rfl
 |j+1=>by unfold redN;rw[y9u j];unfold w3w;rw[Nat.zero_testBit]
def w3x (a:UInt8)(b:Nat):Nat→UInt8
 |0=>0
 |k+1=>w3x a b k ^^^ (match b.testBit k with|true=>xts k a|false=>0)
def v4x (b:Nat):Nat→UInt8
 |0=>0
 |k+1=>v4x b k ^^^ (match b.testBit k with|true=>pw k|false=>0)
theorem x9h (a:UInt8)(b:Nat):∀ k,w3x a b k=mul (v4x b k) a
 |0=>rfl
 |k+1=>by
  unfold w3x v4x
  rw[x9h a b k,xor_mul]
  cases b.testBit k with
  |true=>show _ ^^^ xts k a=_ ^^^ mul (pw k) a;rw[y1r]
  |false=>rfl
theorem v4y (b:UInt8):v4x b.toNat 8=b:=by
 have h:(all8.all fun b=>v4x b.toNat 8==b)=true:=by decide +kernel
 exact eq_of_beq (List.all_eq_true.mp h b (z0e b))
theorem v7x (a:UInt8){k:Nat}(hk:k<8):redN (a.toNat*2 ^ k) 8=(xts k a).toNat:=by
 have h:(all8.all fun a=>(List.range 8).all fun k=>redN (a.toNat*2 ^ k) 8==(xts k a).toNat)=true:=by decide +kernel
 exact eq_of_beq (List.all_eq_true.mp (List.all_eq_true.mp h a (z0e a)) k (List.mem_range.mpr hk))
theorem w6e (a:UInt8)(b:Nat):∀ k,k≤8→redN (accN a.toNat b k) 8=(w3x a b k).toNat
 |0,_=>y9u 8
 |k+1,hk=>by
  unfold accN w3x
  have ih:=w6e a b k (by omega)
  cases b.testBit k with
  |true=>show redN (accN a.toNat b k ^^^ (a.toNat*2 ^ k)) 8=(w3x a b k ^^^ xts k a).toNat;rw[x9g,ih,v7x a (by omega),UInt8.toNat_xor]
  |false=>show redN (accN a.toNat b k) 8=(w3x a b k ^^^ 0).toNat;rw[ih,UInt8.xor_zero]
theorem red_mul (a b:UInt8):redN (accN a.toNat b.toNat 8) 8=(mul a b).toNat:=by
 rw[w6e a b.toNat 8 (Nat.le_refl _),x9h,v4y,mul_comm]
theorem accN_lt (a:UInt8)(b:Nat):∀ k,k≤8→accN a.toNat b k<2 ^ 16
 |0,_=>(by decide:0<2 ^ 16)
 |k+1,hk=>by
  unfold accN
  have ih:=accN_lt a b k (by omega)
  have h2:2 ^ k≤2 ^ 7:=Nat.pow_le_pow_right (by decide) (by omega)
  have ha:=a.toNat_lt
  have hm:a.toNat*2 ^ k≤255*2 ^ 7:=Nat.mul_le_mul (by omega) h2
  split
  ·exact Nat.xor_lt_two_pow ih (by omega)
  ·exact ih
theorem redN_lt {n:Nat}(hn:n<2 ^ 16):∀ j,redN n j<2 ^ 16
 |0=>hn
 |j+1=>by
  unfold redN w3w
  have ih:=redN_lt hn j
  have h2:2 ^ (7 - j)≤2 ^ 7:=Nat.pow_le_pow_right (by decide) (by omega)
  split
  ·exact Nat.xor_lt_two_pow ih (by omega)
  ·exact ih
end Go.Proofs.YtinfbclgkghgaaaGreat.AL.Gf
namespace Go.Proofs.YtinfbclgkghgaaaGreat.AL
open Go Go.Proofs
set_option maxRecDepth 20000 in
theorem z2s (a k:Nat)(ha:a<2 ^ 40)(hk:k≤64):AF Tryz.prog x8s [i64 a,i64 k] [] (v9 (i64 (a.testBit k).toNat) []):=by
 refine AF.mono (R:=fun r H'=>∃ z:Int,z=(a.testBit k).toNat∧r=i64 z∧H'=[]) ?_ (by rintro r H' ⟨z,rfl,rfl,rfl⟩;exact⟨rfl,rfl⟩)
 refine v8 hT x8t rfl rfl x8u rfl ?_
 refine q8 (q7 hT ?_)
 refine y6 (fun st=>∃ x:Int,x=((a / 2 ^ k:Nat):Int)∧st=⟨⟨15,[(0,i64 x)]⟩,[]⟩) (q8 (q7 hT ?_)) ?_
 ·refine z3 ?_
  refine y8 (fun c st=>∃ (i:Nat) (ji x:Int),c+i=k∧ji=i∧x=((a / 2 ^ i:Nat):Int)∧st=⟨⟨15,[(0,i64 x),(1,i64 k),(5,i64 ji)]⟩,[]⟩) k ⟨⟨15,_⟩,_⟩ (q9 [] [0,1,5] rfl) ⟨0,0,a,by omega,rfl,by rw[Nat.pow_zero,Nat.div_one],rfl⟩ ?_
  rintro c st ⟨i,ji,x,hci,hji,hx,rfl⟩
  refine q8 (q8 (q7 hT ?_))
  refine z2 (y4 (fun h=>?_) (fun h=>?_))
  ·have h:=of_decide_eq_true (show decide (ji<(k:Int))=true from h)
   refine z5 ?_
   have hd:a / 2 ^ i≤a:=Nat.div_le_self _ _
   have hn:IntKind.i64.wrap (x.tdiv 2)=((a / 2 ^ (i+1):Nat):Int):=by
    rw[hx,show (2:Int)=((2:Nat):Int) from rfl,z6m _ _ (by omega),Nat.div_div_eq_div_mul,Nat.pow_succ]
   refine y6 (fun st=>∃ x:Int,x=((a / 2 ^ (i+1):Nat):Int)∧st=⟨⟨15,[(0,i64 x),(1,i64 k),(5,i64 ji)]⟩,[]⟩) (z3 (q7 hT ?_)) ?_
   ·exact⟨_,q9 [] [0,1,5] rfl,_,hn,rfl⟩
   ·rintro _ ⟨x,hx,rfl⟩
    refine q7 hT ?_
    exact⟨c - 1,by omega,_,q9 [] [0,1,5] rfl,i+1,IntKind.i64.wrap (ji+1),x,by omega,by rw[y7 _ (by omega) (by omega)];omega,hx,rfl⟩
  ·have h:=of_decide_eq_false (show decide (ji<(k:Int))=false from h)
   refine x9 ?_
   exact⟨_,q9 [] [0] rfl,x,by rw[hx,show i=k by omega],rfl⟩
 rintro _ ⟨x,hx,rfl⟩
 refine q8 (q7 hT ?_)
 refine y5 ?_
 refine z9 [] ⟨_,?_,rfl,rfl⟩ rfl
 rw[hx,show (2:Int)=((2:Nat):Int) from rfl,y5e,Nat.toNat_testBit]
set_option maxRecDepth 20000 in
theorem z1e (k:Nat)(hk:k≤16):AF Tryz.prog y7y [i64 k] [] (v9 (i64 ((2 ^ k:Nat):Int)) []):=by
 refine AF.mono (R:=fun r H'=>∃ z:Int,z=((2 ^ k:Nat):Int)∧r=i64 z∧H'=[]) ?_ (by rintro r H' ⟨z,rfl,rfl,rfl⟩;exact⟨rfl,rfl⟩)
 refine v8 hT y7z rfl rfl y8a rfl ?_
 refine q8 (q7 hT ?_)
 refine q8 (q7 hT ?_)
 refine y6 (fun st=>∃ x:Int,x=((2 ^ k:Nat):Int)∧st=⟨⟨13,[(3,i64 x)]⟩,[]⟩) (q8 (q7 hT ?_)) ?_
 ·refine z3 ?_
  refine y8 (fun c st=>∃ (i:Nat) (ji x:Int),c+i=k∧ji=i∧x=((2 ^ i:Nat):Int)∧st=⟨⟨13,[(0,i64 k),(3,i64 x),(4,i64 ji)]⟩,[]⟩) k ⟨⟨13,_⟩,_⟩ (q9 [] [0,3,4] rfl) ⟨0,0,1,by omega,rfl,rfl,rfl⟩ ?_
  rintro c st ⟨i,ji,x,hci,hji,hx,rfl⟩
  refine q8 (q8 (q7 hT ?_))
  refine z2 (y4 (fun h=>?_) (fun h=>?_))
  ·have h:=of_decide_eq_true (show decide (ji<(k:Int))=true from h)
   refine z5 ?_
   have h2:2 ^ i≤2 ^ 16:=Nat.pow_le_pow_right (by decide) (by omega)
   generalize hpi:2 ^ i=pi at h2 hx
   refine y6 (fun st=>∃ x:Int,x=((2 ^ (i+1):Nat):Int)∧st=⟨⟨13,[(0,i64 k),(3,i64 x),(4,i64 ji)]⟩,[]⟩) (z3 (q7 hT ?_)) ?_
   ·exact⟨_,q9 [] [0,3,4] rfl,_,by rw[hx,y7 _ (by omega) (by omega),Nat.pow_succ,hpi,Int.natCast_mul];rfl,rfl⟩
   ·rintro _ ⟨x,hx,rfl⟩
    refine q7 hT ?_
    exact⟨c - 1,by omega,_,q9 [] [0,3,4] rfl,i+1,IntKind.i64.wrap (ji+1),x,by omega,by rw[y7 _ (by omega) (by omega)];omega,hx,rfl⟩
  ·have h:=of_decide_eq_false (show decide (ji<(k:Int))=false from h)
   refine x9 ?_
   exact⟨_,q9 [] [3] rfl,x,by rw[hx,show i=k by omega],rfl⟩
 rintro _ ⟨x,hx,rfl⟩
 refine q8 (q7 hT ?_)
 refine y5 ?_
 exact z9 [] ⟨x,hx,rfl,rfl⟩ rfl
theorem v4z (x k:Nat):x % 2 ^ (k+1)=x % 2 ^ k+(match x.testBit k with|true=>2 ^ k|false=>0):=by
 have h:=Nat.toNat_testBit x k
 have h2:=Nat.mod_mul (a:=2 ^ k) (b:=2) (x:=x)
 rw[← Nat.pow_succ]at h2
 rw[h2,← h]
 cases x.testBit k <;> simp
set_option maxRecDepth 20000 in
theorem z9c (a b:Nat)(ha:a<2 ^ 16)(hb:b<2 ^ 16):AF Tryz.prog x8v [i64 a,i64 b] [] (v9 (i64 ((a ^^^ b:Nat):Int)) []):=by
 refine AF.mono (R:=fun r H'=>∃ z:Int,z=((a ^^^ b:Nat):Int)∧r=i64 z∧H'=[]) ?_ (by rintro r H' ⟨z,rfl,rfl,rfl⟩;exact⟨rfl,rfl⟩)
 have hab:a ^^^ b<2 ^ 16:=Nat.xor_lt_two_pow ha hb
 have hbit:∀ k,(a ^^^ b).testBit k=(a.testBit k ^^ b.testBit k):=fun k=>Nat.testBit_xor ..
 generalize hx0:a ^^^ b=X at hab hbit
 refine v8 hT x8w rfl rfl x8x rfl ?_
 refine q8 (q7 hT ?_)
 refine q8 (q7 hT ?_)
 refine y6 (fun st=>∃ x:Int,x=((X:Nat):Int)∧st=⟨⟨23,[(5,i64 x)]⟩,[]⟩) (q8 (q7 hT ?_)) ?_
 ·refine z3 ?_
  refine y8 (fun c st=>∃ (i:Nat) (ji x:Int),c+i=16∧ji=i∧x=((X % 2 ^ i:Nat):Int)∧st=⟨⟨23,[(0,i64 a),(1,i64 b),(5,i64 x),(6,i64 ji)]⟩,[]⟩) 16 ⟨⟨23,_⟩,_⟩ (q9 [] [0,1,5,6] rfl) ⟨0,0,0,by omega,rfl,by rw[Nat.pow_zero,Nat.mod_one];rfl,rfl⟩ ?_
  rintro c st ⟨i,ji,x,hci,hji,hx,rfl⟩
  refine q8 (q8 (q7 hT ?_))
  refine z2 (y4 (fun h=>?_) (fun h=>?_))
  ·have h:=of_decide_eq_true (show decide (ji<16)=true from h)
   refine z5 ?_
   have wa:=z2s a i (by omega) (by omega)
   have wb:=z2s b i (by omega) (by omega)
   have wp:=z1e i (by omega)
   rw[← hji]at wa wb wp
   have h2:2 ^ i≤2 ^ 16:=Nat.pow_le_pow_right (by decide) (by omega)
   have hst:=v4z X i
   rw[hbit i]at hst
   have hml:=Nat.mod_le X (2 ^ i)
   refine y6 (fun st=>∃ x:Int,x=((X % 2 ^ (i+1):Nat):Int)∧st=⟨⟨23,[(0,i64 a),(1,i64 b),(5,i64 x),(6,i64 ji)]⟩,[]⟩) (z3 (q8 (q7 hT ?_))) ?_
   ·refine y9 (w7 wa _ rfl rfl) ?_
    refine y9 (w7 wb _ rfl rfl) ?_
    refine z2 (y4 (fun h=>?_) (fun h=>?_))
    ·have h:(((a.testBit i).toNat:Int) != ((b.testBit i).toNat:Int))=true:=h
     have hxr:(a.testBit i ^^ b.testBit i)=true:=by
      revert h
      cases a.testBit i <;> cases b.testBit i <;> decide
     rw[hxr]at hst
     refine q7 hT ?_
     refine y9 (w7 wp _ rfl rfl) ?_
     refine⟨_,q9 [] [0,1,5,6] rfl,_,?_,rfl⟩
     rw[hst,hx,y7 _ (by omega) (by omega)];exact(Int.natCast_add _ _).symm
    ·have h:(((a.testBit i).toNat:Int) != ((b.testBit i).toNat:Int))=false:=h
     have hxr:(a.testBit i ^^ b.testBit i)=false:=by
      revert h
      cases a.testBit i <;> cases b.testBit i <;> decide
     rw[hxr]at hst
     exact z5 ⟨_,q9 [] [0,1,5,6] rfl,x,by rw[hst,hx];rfl,rfl⟩
   ·rintro _ ⟨x,hx,rfl⟩
    refine q7 hT ?_
    exact⟨c - 1,by omega,_,q9 [] [0,1,5,6] rfl,i+1,IntKind.i64.wrap (ji+1),x,by omega,by rw[y7 _ (by omega) (by omega)];omega,hx,rfl⟩
  ·have h:=of_decide_eq_false (show decide (ji<16)=false from h)
   refine x9 ?_
   exact⟨_,q9 [] [5] rfl,x,by rw[hx,show i=16 by omega,Nat.mod_eq_of_lt hab],rfl⟩
 rintro _ ⟨x,hx,rfl⟩
 refine q8 (q7 hT ?_)
 refine y5 ?_
 exact z9 [] ⟨x,hx,rfl,rfl⟩ rfl
theorem y9v (a b:UInt8):AF Tryz.prog y0a [.p (u8 a),.p (u8 b)] [] (v9 (.p (u8 (a ^^^ b))) []):=by
 have w:=z9c a.toNat b.toNat (by have:=a.toNat_lt;omega) (by have:=b.toNat_lt;omega)
 rw[← UInt8.toNat_xor,← y7 (a.toNat:Int) (by have:=a.toNat_lt;omega) (by have:=a.toNat_lt;omega),← y7 (b.toNat:Int) (by have:=b.toNat_lt;omega) (by have:=b.toNat_lt;omega)]at w
 have hw:IntKind.u8.wrap (((a ^^^ b).toNat:Nat):Int)=((a ^^^ b).toNat:Int):=by rw[q0p,UInt8.ofNat_toNat]
 refine AF.mono (R:=fun r H'=>∃ z:Int,z=((a ^^^ b).toNat:Int)∧r=.p (.raw (.int .u8 z))∧H'=[]) ?_ (by rintro r H' ⟨z,rfl,rfl,rfl⟩;exact⟨rfl,rfl⟩)
 generalize (a ^^^ b).toNat=q at w hw
 refine v8 hT x8d rfl rfl x8e rfl ?_
 refine q8 (q7 hT ?_)
 refine q8 (q7 hT ?_)
 refine y9 (w7 w _ rfl rfl) ?_
 refine y5 ?_
 exact z9 [] ⟨_,hw,rfl,rfl⟩ rfl
set_option maxHeartbeats 1000000 in
set_option maxRecDepth 20000 in
theorem y9w (a b:UInt8):AF Tryz.prog z9z [.p (u8 a),.p (u8 b)] [] (v9 (.p (u8 (Gf.mul a b))) []):=by
 have hw:IntKind.u8.wrap (((Gf.mul a b).toNat:Nat):Int)=((Gf.mul a b).toNat:Int):=by rw[q0p,UInt8.ofNat_toNat]
 refine AF.mono (R:=fun r H'=>∃ z:Int,z=((Gf.mul a b).toNat:Int)∧r=.p (.raw (.int .u8 z))∧H'=[]) ?_ (by rintro r H' ⟨z,rfl,rfl,rfl⟩;exact⟨rfl,rfl⟩)
 have hred:=Gf.red_mul a b
 have hal:=fun k hk=>Gf.accN_lt a b.toNat k hk
 have hrl:=fun j=>Gf.redN_lt (hal 8 (Nat.le_refl _)) j
 have hb:=b.toNat_lt
 have ha:=a.toNat_lt
 refine v8 hT x8b rfl rfl x8c rfl ?_
 refine q8 (q7 hT ?_)
 refine q8 (q7 hT ?_)
 refine y6 (fun st=>∃ x:Int,x=((Gf.accN a.toNat b.toNat 8:Nat):Int)∧st=⟨⟨40,[(5,i64 x)]⟩,[]⟩) (q8 (q7 hT ?_)) ?_
 ·refine z3 ?_
  refine y8 (fun c st=>∃ (i:Nat) (ji x:Int),c+i=8∧ji=i∧x=((Gf.accN a.toNat b.toNat i:Nat):Int)∧st=⟨⟨40,[(0,.p (u8 a)),(1,.p (u8 b)),(5,i64 x),(6,i64 ji)]⟩,[]⟩) 8 ⟨⟨40,_⟩,_⟩ (q9 [] [0,1,5,6] rfl) ⟨0,0,0,by omega,rfl,rfl,rfl⟩ ?_
  rintro c st ⟨i,ji,x,hci,hji,hx,rfl⟩
  refine q8 (q8 (q7 hT ?_))
  refine z2 (y4 (fun h=>?_) (fun h=>?_))
  ·have h:=of_decide_eq_true (show decide (ji<8)=true from h)
   refine z5 ?_
   have wb:=z2s b.toNat i (by omega) (by omega)
   have wp:=z1e i (by omega)
   have h2:2 ^ i≤2 ^ 7:=Nat.pow_le_pow_right (by decide) (by omega)
   have hm:a.toNat*2 ^ i≤255*2 ^ 7:=Nat.mul_le_mul (by omega) h2
   have ws:=z9c (Gf.accN a.toNat b.toNat i) (a.toNat*2 ^ i) (hal i (by omega)) (by omega)
   have hst:Gf.accN a.toNat b.toNat (i+1)=match b.toNat.testBit i with|true=>Gf.accN a.toNat b.toNat i ^^^ (a.toNat*2 ^ i)|false=>Gf.accN a.toNat b.toNat i:=rfl
   have hwa:IntKind.i64.wrap (a.toNat:Int)=a.toNat:=y7 _ (by omega) (by omega)
   have hwb:IntKind.i64.wrap (b.toNat:Int)=b.toNat:=y7 _ (by omega) (by omega)
   have hmw:IntKind.i64.wrap (IntKind.i64.wrap (a.toNat:Int)*((2 ^ i:Nat):Int))=((a.toNat*2 ^ i:Nat):Int):=by
    rw[hwa,show (a.toNat:Int)*((2 ^ i:Nat):Int)=((a.toNat*2 ^ i:Nat):Int) from(Int.natCast_mul _ _).symm]
    exact y7 _ (by omega) (by omega)
   rw[← hx,← hmw]at ws
   rw[← hji]at wb wp
   rw[← hwb]at wb
   refine y6 (fun st=>∃ x:Int,x=((Gf.accN a.toNat b.toNat (i+1):Nat):Int)∧st=⟨⟨40,[(0,.p (u8 a)),(1,.p (u8 b)),(5,i64 x),(6,i64 ji)]⟩,[]⟩) (z3 (q8 (q7 hT ?_))) ?_
   ·refine y9 (w7 wb _ rfl rfl) ?_
    refine z2 (y4 (fun h=>?_) (fun h=>?_))
    ·have h:(((b.toNat.testBit i).toNat:Int)==1)=true:=h
     have hb1:b.toNat.testBit i=true:=by
      revert h
      cases b.toNat.testBit i <;> decide
     rw[hb1]at hst
     refine q7 hT ?_
     refine y9 (w7 wp _ rfl rfl) ?_
     refine y9 (w7 ws _ rfl rfl) ?_
     exact⟨_,q9 [] [0,1,5,6] rfl,_,by rw[hst],rfl⟩
    ·have h:(((b.toNat.testBit i).toNat:Int)==1)=false:=h
     have hb1:b.toNat.testBit i=false:=by
      revert h
      cases b.toNat.testBit i <;> decide
     rw[hb1]at hst
     exact z5 ⟨_,q9 [] [0,1,5,6] rfl,x,by rw[hst,hx],rfl⟩
   ·rintro _ ⟨x,hx,rfl⟩
    refine q7 hT ?_
    exact⟨c - 1,by omega,_,q9 [] [0,1,5,6] rfl,i+1,IntKind.i64.wrap (ji+1),x,by omega,by rw[y7 _ (by omega) (by omega)];omega,hx,rfl⟩
  ·have h:=of_decide_eq_false (show decide (ji<8)=false from h)
   refine x9 ?_
   exact⟨_,q9 [] [5] rfl,x,by rw[hx,show i=8 by omega],rfl⟩
 rintro _ ⟨x8,hx8,rfl⟩
 have hal8:=hal 8 (Nat.le_refl _)
 generalize Gf.accN a.toNat b.toNat 8=N8 at hred hrl hx8 hal8
 refine y6 (fun st=>∃ x:Int,x=((Gf.mul a b).toNat:Int)∧st=⟨⟨40,[(5,i64 x)]⟩,[]⟩) (q8 (q7 hT ?_)) ?_
 ·refine z3 ?_
  refine y8 (fun c st=>∃ (j:Nat) (ji x:Int),c+j=8∧ji=15 - (j:Int)∧x=((Gf.redN N8 j:Nat):Int)∧st=⟨⟨40,[(5,i64 x),(7,i64 ji)]⟩,[]⟩) 8 ⟨⟨40,_⟩,_⟩ (q9 [] [5,7] rfl) ⟨0,15,x8,by omega,rfl,hx8,rfl⟩ ?_
  rintro c st ⟨j,ji,x,hcj,hji,hx,rfl⟩
  refine q8 (q8 (q7 hT ?_))
  refine z2 (y4 (fun h=>?_) (fun h=>?_))
  ·have h:=of_decide_eq_true (show decide (ji≥8)=true from h)
   refine z5 ?_
   have hj:j<8:=by omega
   have hrj:=hrl j
   have wb:=z2s (Gf.redN N8 j) (15 - j) (by omega) (by omega)
   have hjw:IntKind.i64.wrap (ji - 8)=((7 - j:Nat):Int):=by rw[y7 _ (by omega) (by omega),hji];omega
   have wp:=z1e (7 - j) (by omega)
   have h2:2 ^ (7 - j)≤2 ^ 7:=Nat.pow_le_pow_right (by decide) (by omega)
   have ws:=z9c (Gf.redN N8 j) (285*2 ^ (7 - j)) hrj (by omega)
   have hst:Gf.redN N8 (j+1)=match (Gf.redN N8 j).testBit (15 - j) with|true=>Gf.redN N8 j ^^^ (285*2 ^ (7 - j))|false=>Gf.redN N8 j:=rfl
   have hmw:IntKind.i64.wrap (285*((2 ^ (7 - j):Nat):Int))=((285*2 ^ (7 - j):Nat):Int):=by
    rw[show (285:Int)*((2 ^ (7 - j):Nat):Int)=((285*2 ^ (7 - j):Nat):Int) from(Int.natCast_mul _ _).symm]
    exact y7 _ (by omega) (by omega)
   rw[← hx,← hmw]at ws
   rw[show ((15 - j:Nat):Int)=ji by omega,← hx]at wb
   rw[← hjw]at wp
   refine y6 (fun st=>∃ x:Int,x=((Gf.redN N8 (j+1):Nat):Int)∧st=⟨⟨40,[(5,i64 x),(7,i64 ji)]⟩,[]⟩) (z3 (q8 (q7 hT ?_))) ?_
   ·refine y9 (w7 wb _ rfl rfl) ?_
    refine z2 (y4 (fun h=>?_) (fun h=>?_))
    ·have h:((((Gf.redN N8 j).testBit (15 - j)).toNat:Int)==1)=true:=h
     have hb1:(Gf.redN N8 j).testBit (15 - j)=true:=by
      revert h
      cases (Gf.redN N8 j).testBit (15 - j) <;> decide
     rw[hb1]at hst
     refine q7 hT ?_
     refine y9 (w7 wp _ rfl rfl) ?_
     refine y9 (w7 ws _ rfl rfl) ?_
     exact⟨_,q9 [] [5,7] rfl,_,by rw[hst],rfl⟩
    ·have h:((((Gf.redN N8 j).testBit (15 - j)).toNat:Int)==1)=false:=h
     have hb1:(Gf.redN N8 j).testBit (15 - j)=false:=by
      revert h
      cases (Gf.redN N8 j).testBit (15 - j) <;> decide
     rw[hb1]at hst
     exact z5 ⟨_,q9 [] [5,7] rfl,x,by rw[hst,hx],rfl⟩
   ·rintro _ ⟨x,hx,rfl⟩
    refine q7 hT ?_
    exact⟨c - 1,by omega,_,q9 [] [5,7] rfl,j+1,IntKind.i64.wrap (ji - 1),x,by omega,by rw[y7 _ (by omega) (by omega)];omega,hx,rfl⟩
  ·have h:=of_decide_eq_false (show decide (ji≥8)=false from h)
   refine x9 ?_
   exact⟨_,q9 [] [5] rfl,x,by rw[hx,show j=8 by omega,hred],rfl⟩
 rintro _ ⟨x,hx,rfl⟩
 rw[← hx]at hw
 refine q8 (q7 hT ?_)
 refine y5 ?_
 exact z9 [] ⟨_,hw.trans hx,rfl,rfl⟩ rfl
theorem Gf.mul_inv_cancel {b:UInt8}(hb:b≠0)(a c:UInt8):Gf.mul c b=a↔c=Gf.mul a (Gf.inv b):=by
 constructor
 ·intro h
  rw[← h,Gf.mul_assoc,Gf.mul_inv hb,Gf.mul_one]
 ·intro h
  rw[h,Gf.mul_assoc,Gf.mul_comm (Gf.inv b),Gf.mul_inv hb,Gf.mul_one]
set_option maxRecDepth 20000 in
theorem w8u (a b:UInt8)(hb:b≠0):AF Tryz.prog x8i [.p (u8 a),.p (u8 b)] [] (v9 (.tup [.p (u8 (Gf.mul a (Gf.inv b))),i64 0]) []):=by
 obtain⟨q,hq⟩:∃ q,q=Gf.mul a (Gf.inv b):=⟨_,rfl⟩
 rw[← hq]
 have hqc:=fun c=>Gf.mul_inv_cancel hb a c
 rw[← hq]at hqc
 have hql:=q.toNat_lt
 refine AF.mono (R:=fun r H'=>∃ z:Int,z=(q.toNat:Int)∧r=.tup [.p (.raw (.int .u8 z)),i64 0]∧H'=[]) ?_ (by rintro r H' ⟨z,rfl,rfl,rfl⟩;exact⟨rfl,rfl⟩)
 refine v8 hT x8j rfl rfl x8k rfl ?_
 refine q8 (q7 hT ?_)
 refine z8 ⟨⟨23,[(0,.p (u8 a)),(1,.p (u8 b))]⟩,[]⟩ True (q8 (q7 hT ?_)) (fun _=>?_)
 ·refine z2 (y4 (fun h=>?_) (fun h=>?_))
  ·have h:((b.toNat:Int)==0)=true:=h
   rw[beq_iff_eq]at h
   exact absurd (UInt8.toNat_inj.mp (show b.toNat=(0:UInt8).toNat by show b.toNat=0;omega)) hb
  ·exact z5 ⟨q9 [] [0,1] rfl,trivial⟩
 refine q8 (q8 (q7 hT ?_))
 refine z3 ?_
 refine y8 (fun n st=>∃ (c:Nat) (jc:Int),n+c=q.toNat∧jc=c∧st=⟨⟨23,[(0,.p (u8 a)),(1,.p (u8 b)),(6,i64 jc)]⟩,[]⟩) q.toNat ⟨⟨23,_⟩,_⟩ (q9 [] [0,1,6] rfl) ⟨0,0,by omega,rfl,rfl⟩ ?_
 rintro n st ⟨c,jc,hnc,hjc,rfl⟩
 refine q8 (q8 (q7 hT ?_))
 refine z2 (y4 (fun h=>?_) (fun h=>?_))
 ·refine z5 ?_
  have hcw:IntKind.u8.wrap jc=((UInt8.ofNat c).toNat:Int):=by rw[hjc,q0p]
  have hcn:(UInt8.ofNat c).toNat=c:=by rw[UInt8.toNat_ofNat',Nat.mod_eq_of_lt (by omega)]
  have wM:=y9w (UInt8.ofNat c) b
  have hcq:=hqc (UInt8.ofNat c)
  generalize Gf.mul (UInt8.ofNat c) b=p at wM hcq
  refine z8 ⟨⟨23,[(0,.p (u8 a)),(1,.p (u8 b)),(6,i64 jc)]⟩,[]⟩ (c≠q.toNat) (z3 (q8 (q7 hT ?_))) (fun hne=>?_)
  ·have wM:AF Tryz.prog z9z [.p (.raw (.int .u8 (IntKind.u8.wrap jc))),.p (u8 b)] [] (v9 (.p (u8 p)) []):=by rw[hcw];exact wM
   refine y9 (w7 wM _ rfl rfl) ?_
   refine q8 (q7 hT ?_)
   refine z2 (y4 (fun h=>?_) (fun h=>?_))
   ·have h:((p.toNat:Int)==(a.toNat:Int))=true:=h
    rw[beq_iff_eq]at h
    have hpa:p=a:=UInt8.toNat_inj.mp (by omega)
    have hc:=hcq.mp hpa
    refine q8 (q7 hT ?_)
    refine y5 ?_
    exact z9 [] ⟨_,by rw[hcw,hc],rfl,rfl⟩ rfl
   ·have h:((p.toNat:Int)==(a.toNat:Int))=false:=h
    rw[beq_eq_false_iff_ne]at h
    refine z5 ⟨q9 [] [0,1,6] rfl,fun e=>?_⟩
    have hc:UInt8.ofNat c=q:=UInt8.toNat_inj.mp (by omega)
    exact h (by rw[hcq.mpr hc])
  ·refine q7 hT ?_
   exact⟨n - 1,by omega,_,q9 [] [0,1,6] rfl,c+1,IntKind.i64.wrap (jc+1),by omega,by rw[y7 _ (by omega) (by omega)];omega,rfl⟩
 ·have h:=of_decide_eq_false (show decide (jc<256)=false from h)
  omega
end Go.Proofs.YtinfbclgkghgaaaGreat.AL
namespace Go.Proofs.YtinfbclgkghgaaaGreat.AL
open Go Go.RowKit
theorem fill {w w':World}{I I':Nat→Prop}{ι ι1:Nat→Option Nat}{H:List ABlk}{b sz:Nat}{t:TypeId}{xs:List (List PV)}(hs:SimH w I ι H)(hb:H[b]?=some .dead)(hι:ι b=none)
 (h1:SimH w' I' ι1 [.row t sz xs]) (hx:Ext w I (fun _=>none) [] w' I' ι1 [.row t sz xs]) :
 SimH w' I' (fun x=>if x=b then ι1 0 else ι x) (H.set b (.row t sz xs))∧Ext w I ι H w' I' (fun x=>if x=b then ι1 0 else ι x) (H.set b (.row t sz xs)):=by
 have hbl:b<H.length:=(List.getElem?_eq_some_iff.1 hb).1
 have nol:∀ c,¬ live ([]:List ABlk) c:=fun c ⟨k,hk,_⟩=>by simp at hk
 have fr:∀ B,B<w.heap.size→w'.heap[B]?=w.heap[B]?:=fun B hB=>hx.frame B hB fun⟨c,hc,_⟩=>nol c hc
 have hI:∀ B,I B→w'.heap[B]?=w.heap[B]?:=fun B hB=>fr B (hs.Ilt B hB)
 have inew:∀ B,I' B→I B∨w.heap.size≤B:=fun B hB=>by
  rcases hx.Inew B hB with h|h|⟨c,hc,_⟩
  ·exact .inl h
  ·exact .inr h
  ·exact absurd hc (nol c)
 have own0:∀ B,ι1 0=some B→w.heap.size≤B:=fun B hB=>by
  rcases hx.own 0 B ⟨_,rfl,rfl⟩ hB with h|⟨c,hc,_⟩
  ·exact h
  ·exact absurd hc (nol c)
 have mv:∀ c B,ι c=some B→(if c=b then ι1 0 else ι c)=some B:=fun c B hc=>by
  by_cases e:c=b
  ·subst e;rw[hι]at hc;simp at hc
  ·rw[if_neg e];exact hc
 have lv:∀ c,live (H.set b (.row t sz xs)) c→c≠b→live H c:=fun c ⟨k,hk,hl⟩ hc=>by
  rw[List.getElem?_set_ne (by omega)]at hk;exact⟨k,hk,hl⟩
 have ldb:¬ live H b:=fun⟨k,hk,hl⟩=>by rw[hb]at hk;obtain rfl:=Option.some.inj hk;simp[ABlk.live]at hl
 have notI:∀ {B},B<w.heap.size→¬ I B→¬ I' B:=fun {B} hB hn hI'=>by
  rcases inew B hI' with h|h
  ·exact hn h
  ·omega
 refine⟨⟨?_,?_,h1.Ilt,?_,?_⟩,⟨hx.os,hx.tape,hx.output,hx.size,hx.shape,hx.Isub,fun B hB _=>fr B hB,fun B hB=>?_,?_⟩⟩
 ·intro c kc hc
  by_cases e:c=b
  ·subst e
   rw[List.getElem?_set_self hbl]at hc
   obtain rfl:=Option.some.inj hc
   have h0:=h1.blk 0 _ rfl
   rcases h0 with ⟨g1,g2⟩|⟨B,cs,g1,g2⟩
   ·exact .inl ⟨g1,by show (if c=c then ι1 0 else ι c)=none;rw[if_pos rfl];exact g2⟩
   ·exact .inr ⟨B,cs,by show (if c=c then ι1 0 else ι c)=some B;rw[if_pos rfl];exact g1,g2⟩
  ·rw[List.getElem?_set_ne (by omega)]at hc
   have h0:=hs.blk c kc hc
   cases kc with
   |dead=>trivial
   |cells t l=>
    obtain⟨B,cs,g1,g2,g3,g4,g5⟩:=h0
    exact⟨B,cs,mv c B g1,by rw[fr B (hs.rng c B g1)];exact g2,notI (hs.rng c B g1) g3,g4,fun i u hu=>(g5 i u hu).move hI hx.Isub mv hx.shape⟩
   |lp q st pe l=>
    obtain⟨B,cs,g1,g2,g3,g4,g5⟩:=h0
    exact⟨B,cs,mv c B g1,by rw[fr B (hs.rng c B g1)];exact g2,notI (hs.rng c B g1) g3,g4,fun i u hu=>(g5 i u hu).move hI hx.Isub mv hx.shape⟩
   |row t sz xs=>
    rcases h0 with ⟨g1,g2⟩|⟨B,cs,g1,g2,g3,g4,g5,g6⟩
    ·exact .inl ⟨g1,by show (if c=b then ι1 0 else ι c)=none;rw[if_neg e];exact g2⟩
    ·exact .inr ⟨B,cs,mv c B g1,by rw[fr B (hs.rng c B g1)];exact g2,notI (hs.rng c B g1) g3,g4,g5,fun j x hj=>⟨(g6 j x hj).1,fun i u hu=>((g6 j x hj).2 i u hu).move hI hx.Isub⟩⟩
   |obj o=>
    obtain⟨g0,B,g1,g2,g3⟩:=h0
    exact⟨g0,B,mv c B g1,by rw[fr B (hs.rng c B g1)];exact g2,notI (hs.rng c B g1) g3⟩
 ·intro c c' B hc hc' e1 e2
  have e1:(if c=b then ι1 0 else ι c)=some B:=e1
  have e2:(if c'=b then ι1 0 else ι c')=some B:=e2
  by_cases h:c=b <;> by_cases h':c'=b
  ·omega
  ·rw[if_pos h]at e1;rw[if_neg h']at e2
   have:=own0 B e1;have:=hs.rng c' B e2;omega
  ·rw[if_neg h]at e1;rw[if_pos h']at e2
   have:=own0 B e2;have:=hs.rng c B e1;omega
  ·rw[if_neg h]at e1;rw[if_neg h']at e2
   exact hs.inj c c' B (lv c hc h) (lv c' hc' h') e1 e2
 ·intro c hc
  simp only[List.length_set]at hc
  show (if c=b then ι1 0 else ι c)=none
  rw[if_neg (by omega)];exact hs.dom c hc
 ·intro c B hc
  have hc:(if c=b then ι1 0 else ι c)=some B:=hc
  by_cases e:c=b
  ·rw[if_pos e]at hc;exact h1.rng 0 B hc
  ·rw[if_neg e]at hc;have:=hs.rng c B hc;have:=hx.size;omega
 ·rcases inew B hB with h|h
  ·exact .inl h
  ·exact .inr (.inl h)
 ·intro c B hc e1
  have e1:(if c=b then ι1 0 else ι c)=some B:=e1
  by_cases e:c=b
  ·rw[if_pos e]at e1;exact .inl (own0 B e1)
  ·rw[if_neg e]at e1;exact .inr ⟨c,lv c hc e,e1⟩
section
variable {P:Program} {T:V4} {ops:Array Oper} {m N:Nat} {B:Array Bool→List ABlk} {G:Array Bool→(Nat→Option Nat)→Prop}
end
structure Mk where
 k:Nat
 t:TypeId
 sz:Nat
 len:Nat
 xs:List (List PV)
abbrev Mk.row (x:Mk):ABlk:=.row x.t x.sz x.xs
abbrev Mk.val (x:Mk)(b:Nat):AV:=.msl b x.sz 0 x.len
section
variable {P:Program} {T:V4} {ops ops':Array Oper} {m:Nat} {fe:List Mk} {ef:List Nat}
end
end Go.Proofs.YtinfbclgkghgaaaGreat.AL
namespace Go.Proofs.YtinfbclgkghgaaaGreat.AL
open Go
theorem x9i {α:Type}{l:List α}{i j:Nat}{x d:α}(h:i≠j):(l.set i x).getD j d=l.getD j d:=by
 rw[List.getD_eq_getElem?_getD,List.getD_eq_getElem?_getD,List.getElem?_set_ne h]
theorem V9 {m:Nat}{s:St}(M:Nat)(ps ks:List Nat)(H2:List ABlk){q:RecK}{st:LoopState}{pe:Option Code}{l:List AV}(hM:s.H[M]?=some (.lp q st pe l))(hl:U1 (M+1) l=true)
 (hp:z4z (M+1) 0 ps=true) (hH:(q7g (s.H.set M .dead) ps ps).set M (.lp q st pe l)=H2)
 (h:(z4z m 0 ps&&q2v ps&&q9v s.H.length ps&&q8w (s.H.set M .dead) ps ps&&q7h s.fr.l ps ks)=true) :
 Wk m s ⟨⟨s.fr.n,q0q s.fr.l ps ks⟩,H2⟩:=by
 subst hH
 simp only[Bool.and_eq_true]at h
 obtain⟨⟨⟨⟨h1,h2⟩,h3⟩,h4⟩,h5⟩:=h
 have hid:∀ b,b<M+1→rho s.H.length ps b=b:=fun b hb=>by
  have:=z2h hp b hb
  simp[rho,List.getD_eq_getElem?_getD,this]
 have hnd:=q4v h2
 have hMp:ps[M]?=some M:=by rw[z2h hp M (by omega)];congr 1;omega
 refine w2g ps ⟨by rw[List.length_set];exact z2i ps,hnd,fun b k hb=>.inr ?_⟩ (fun b hb=>by rw[z2h h1 b hb];congr 1;omega) rfl (fun i u2 hu=>?_)
 ·by_cases e:b=M
  ·subst e
   have hlt:b<(q7g (s.H.set b .dead) ps ps).length:=by
    have:=(List.getElem?_eq_some_iff.1 hb).1
    simpa using this
   rw[List.getElem?_set_self hlt]at hb
   obtain rfl:=Option.some.inj hb
   refine⟨b,hMp,?_⟩
   rw[hM]
   congr 1
   show _=ABlk.lp q st pe (q2g _ l)
   rw[q3u hid l hl]
  ·rw[List.getElem?_set_ne (by omega)]at hb
   obtain⟨p,hpp,hk⟩:=z2j (n:=s.H.length) h4 b k hb
   refine⟨p,hpp,?_⟩
   have hlt:=z0r h3 p (List.mem_of_getElem? hpp)
   have hne:M≠p:=fun e2=>by
    subst e2
    obtain⟨x1,y1⟩:=List.getElem?_eq_some_iff.1 hpp
    obtain⟨x2,y2⟩:=List.getElem?_eq_some_iff.1 hMp
    have hpw:=List.pairwise_iff_getElem.1 hnd
    rcases Nat.lt_trichotomy b M with hlt2|he|hlt2
    ·exact hpw b M x1 x2 hlt2 (y1.trans y2.symm)
    ·exact e he
    ·exact hpw M b x2 x1 hlt2 (y2.trans y1.symm)
   rw[x9i hne]at hk
   rw[← hk,List.getD_eq_getElem?_getD,List.getElem?_eq_getElem hlt];rfl
 ·obtain⟨u,hu1,hu2⟩:=q8a (n:=s.H.length) h5 i u2 hu
  exact⟨u,hu1,.inr (.inl hu2)⟩
end Go.Proofs.YtinfbclgkghgaaaGreat.AL
namespace Go.Proofs.YtinfbclgkghgaaaGreat.AL
open Go
theorem w6f {m:Nat}{s:St}(i b sz n:Nat){t:TypeId}{xs ys:List (List PV)}(e:xs=ys)(hn:n=xs.length)(hb:s.H[b]?=some (.row t sz xs))(hi:Z9 s.fr.l i=some (.msl b sz 0 n)) :
 Wk m s ⟨⟨s.fr.n,(i,.p (.sl sz ys)) :: s.fr.l⟩,s.H.set b .dead⟩:=by
 subst hn
 have:=y1t (m:=m) (s:=s) i b hb hi (by omega)
 rw[List.drop_zero,List.take_length]at this
 subst e
 exact this
end Go.Proofs.YtinfbclgkghgaaaGreat.AL
namespace Go.Proofs.YtinfbclgkghgaaaGreat.AL
open Go Go.RowKit
theorem U8 {m:Nat}{s:St}(b c o len:Nat){t t2:TypeId}{sz:Nat}{xs:List (List PV)}{l:List AV}(hb:s.H[b]?=some (.row t sz xs))(hc:s.H[c]?=some (.cells t2 l))(hl:l[o]?=some (.msl b sz 0 len))(hlen:len=xs.length) :
 Wk m s ⟨s.fr,(s.H.set b .dead).set c (.cells t2 (l.set o (.p (.sl sz xs))))⟩:=fun N w I ι a hs hm=>by
 subst hlen
 have hlive:live s.H b:=⟨_,hb,rfl⟩
 have hbc:b≠c:=fun e=>by subst e;rw[hb]at hc;cases hc
 obtain⟨k1,k2⟩:=hs.H.freeze b hlive
 have hblk:=hs.H.blk b _ hb
 have hcb:=hs.H.blk c _ hc
 have hlivec:live (s.H.set b .dead) c:=⟨_,by rw[List.getElem?_set_ne hbc];exact hc,rfl⟩
 have hsl:∀ (n:Nat) (v:Value),n=xs.length→ARep w I ι (.msl b sz 0 n) v→PRep w (fun C=>I C∨ι b=some C) (.sl sz xs) v:=by
  intro n v hn hu
  cases hu with
  |msl _ _ _ _ B cc hB hcc hsz=>
   rcases hblk with ⟨_,g1⟩|⟨B',cs,g1,g2,g3,g4,gl,g6⟩
   ·rw[g1]at hB;exact absurd hB (by simp)
   ·rw[g1]at hB;obtain rfl:=Option.some.inj hB
    have:=x1y (xs:=xs) (I2:=fun C=>I C∨ι b=some C) (off:=0) (len:=n) (fun _ h=>Or.inl h) (Or.inr g1) g2 g4 gl g6 (by omega) hcc
    rw[List.drop_zero,hn,List.take_length]at this
    rw[hn]
    exact this
  |msl0 _ _ _ A=>
   have hx:xs=[]:=List.length_eq_zero_iff.1 hn.symm
   subst hx
   exact PRep.sl (w:=w) sz [] A 0 (fun _ _=>undef) (by simp) (by simp) (.inl rfl) (fun j e i u h=>by simp at h)
 have hlv:∀ d,live ((s.H.set b .dead).set c (.cells t2 (l.set o (.p (.sl sz xs))))) d→live (s.H.set b .dead) d:=fun d hd=>q1j hd hlivec
 have hsim:SimH w (fun C=>I C∨ι b=some C) ι ((s.H.set b .dead).set c (.cells t2 (l.set o (.p (.sl sz xs))))):=by
  refine⟨fun d k hd=>?_,fun d d' B hd hd'=>k1.inj d d' B (hlv d hd) (hlv d' hd'),k1.Ilt,fun d hd=>k1.dom d (by simpa using hd),k1.rng⟩
  by_cases e:d=c
  ·subst e
   rw[List.getElem?_set_self (V6 hlivec)]at hd
   obtain rfl:=Option.some.inj hd
   obtain⟨B,cs,g1,g2,g3,g4,g5⟩:=hcb
   have h0:=k1.blk d (.cells t2 l) (by rw[List.getElem?_set_ne hbc];exact hc)
   obtain⟨B',cs',f1,f2,f3,f4,f5⟩:=h0
   rw[g1]at f1;obtain rfl:=Option.some.inj f1
   rw[g2]at f2;obtain⟨rfl,_⟩:=Obj.cells.inj (Option.some.inj f2)
   refine⟨B,cs,g1,g2,f3,by rw[List.length_set];exact g4,fun i u hu=>?_⟩
   rw[List.getElem?_set]at hu
   split at hu
   ·rename_i e2;subst e2
    split at hu
    ·obtain rfl:=Option.some.inj hu
     exact .p (hsl _ _ rfl (g5 o _ hl))
    ·cases hu
   ·exact f5 i u hu
  ·rw[List.getElem?_set_ne (by omega)]at hd
   exact k1.blk d k hd
 have hx:Ex m w I ι s.H w (fun C=>I C∨ι b=some C) ι ((s.H.set b .dead).set c (.cells t2 (l.set o (.p (.sl sz xs))))):=by
  have hx2:Ex m w (fun C=>I C∨ι b=some C) ι (s.H.set b .dead) w (fun C=>I C∨ι b=some C) ι ((s.H.set b .dead).set c (.cells t2 (l.set o (.p (.sl sz xs))))):=⟨⟨rfl,rfl,rfl,Nat.le_refl _,Shape.refl w,fun _ h=>h,fun _ _ _=>rfl,fun _ h=>.inl h,fun c B hc h=>.inr ⟨c,hlv c hc,h⟩⟩,fun _ _=>rfl,by simpa using hm⟩
  exact(k2.less hm).trans hx2
 exact⟨_,ι,hs.turn ⟨hs.fr.1,fun i u hu=>(hs.fr.2 i u hu).move (fun _ _=>rfl) (fun _ h=>.inl h) (fun _ _ h=>h) (Shape.refl w)⟩ hsim hx,hx⟩
theorem w8v {P:Program}{f:FuncId}{l l1 rest:List AV}{H:List ABlk}{R:AV→List ABlk→Prop}(h:AF P f (.agg l1 :: rest) H R)(ha:ArgL l l1):AF P f (.agg l :: rest) H R:=by
 obtain⟨k1,k2⟩:=ha.get
 refine⟨h.1,fun w I ι vals hn hv hs=>h.2 w I ι vals (by simpa using hn) (fun i u1 hu1=>?_) hs⟩
 cases i with
 |succ i=>exact hv (i+1) u1 hu1
 |zero=>
  simp only[List.getElem?_cons_zero,Option.some.injEq]at hu1
  subst hu1
  have h0:=hv 0 (.agg l) rfl
  generalize vals.getD 0 undef=x at h0
  cases h0 with
  |agg _ vs hvn hr=>
   refine .agg l1 vs (by omega) fun i u1 hu1=>?_
   obtain⟨u,hu,h1⟩:=k2 i u1 hu1
   rcases h1 with rfl|⟨rfl,sz,rfl⟩
   ·exact hr i _ hu
   ·rw[Q7 (hr i _ hu)]
    exact .p (PRep.sl sz [] none 0 (fun _ _=>undef) (by simp) (by simp) (.inl rfl) (fun j e i u h=>by simp at h))
end Go.Proofs.YtinfbclgkghgaaaGreat.AL
namespace Go.Proofs.YtinfbclgkghgaaaGreat.AL
open Go Go.RowKit
structure Marked (w w':World) (B:Nat):Prop where
 os:w'.os=w.os
 tape:w'.tape=w.tape
 output:w'.output=w.output
 size:w'.heap.size=w.heap.size
 old:∀ k,k≠B→w'.heap[k]?=w.heap[k]?
 new:∀ cs t fr,w.heap[B]?=some (.cells cs t fr)→∃ fr',w'.heap[B]?=some (.cells cs t fr')
theorem Marked.cell {w w':World}{B:Nat}(m:Marked w w' B){cs:Array Value}{t:TypeId}{fr:Nat × Nat}(hB:w.heap[B]?=some (.cells cs t fr))(C o:Nat):w'.cell? ⟨C,o,none⟩=w.cell? ⟨C,o,none⟩:=by
 unfold World.cell?
 by_cases e:C=B
 ·subst e
  obtain⟨fr',h⟩:=m.new cs t fr hB
  simp only[hB,h]
 ·simp only[m.old C e]
section
variable {P:Program} {T:V4} {m:Nat}
end
end Go.Proofs.YtinfbclgkghgaaaGreat.AL
namespace Go.Proofs.YtinfbclgkghgaaaGreat.AL
open Go Go.RowKit
theorem q0f {l:List AV}{K:List AV→Prop}(k:K l):q8v l K:=by rw[z2e];exact k
def w8w (l:List (Nat × AV)):List Nat→List (Nat × AV)
 |[]=>[]
 |t :: ks=>match Z9 l t with
  |some u=>(t,u) :: w8w l ks
  |none=>w8w l ks
theorem z9d {l:List (Nat × AV)}:∀ {ks:List Nat} {i:Nat} {u:AV},Z9 (w8w l ks) i=some u→Z9 l i=some u
 |[],i,u,h=>by simp[w8w,Z9]at h
 |t :: ks,i,u,h=>by
  unfold w8w at h
  cases hl:Z9 l t with
  |none=>rw[hl]at h;exact z9d h
  |some v=>
   rw[hl]at h
   simp only at h
   by_cases e:t=i
   ·subst e
    rw[X9]at h
    rw[hl];exact h
   ·rw[X4 _ _ e]at h
    exact z9d h
theorem z6n {m:Nat}{s:St}(ks:List Nat):Wk m s ⟨⟨s.fr.n,w8w s.fr.l ks⟩,s.H⟩:=fun _ _ I ι _ hs hm=>
 ⟨I,ι,hs.turn ⟨hs.fr.1,fun i u hu=>hs.fr.2 i u (z9d hu)⟩ hs.H (Ex.refl hm),Ex.refl hm⟩
theorem w6g {u:AV}{H:List ABlk}{R:AV→List ABlk→Prop}{m:Nat}(h:R u H):∃ u2 H2,Wk m ⟨⟨1,[(0,u)]⟩,H⟩ ⟨⟨1,[(0,u2)]⟩,H2⟩∧R u2 H2:=⟨u,H,Wk.refl m _,h⟩
end Go.Proofs.YtinfbclgkghgaaaGreat.AL
namespace Go.Proofs.YtinfbclgkghgaaaGreat.AL
open Go Go.Proofs
abbrev fC (E:List UInt8)(G:List Int):List AV:=(E.map fun b=>AV.p (u8 b))++(G.map fun n=>i64 n)++[bl true]
theorem y5f {α:Type}:∀ (l:List α) (n:Nat) (v:α),n<l.length→X7 l n [v]=l.set n v
 |[],n,v,h=>by simp at h
 |x :: l,0,v,_=>rfl
 |x :: l,n+1,v,h=>by
  have:=y5f l n v (by simpa using h)
  unfold X7 at this ⊢
  simp only[List.take_succ_cons,List.cons_append,List.set_cons_succ,List.length_singleton]at this ⊢
  rw[show n+1+1=(n+1)+1 from rfl,List.drop_succ_cons,this]
theorem v5a {E:List UInt8}{G:List Int}{n:Nat}(h:n<E.length)(a:UInt8):X7 (fC E G) n [.p (u8 a)]=fC (E.set n a) G:=by
 rw[y5f _ _ _ (by simp[fC];omega)]
 unfold fC
 rw[List.append_assoc,List.set_append_left _ _ (by rw[List.length_map];exact h),List.map_set,List.append_assoc]
theorem u0x {E:List UInt8}{G:List Int}{n:Nat}(hE:E.length=510)(h:n<G.length)(v:Int):X7 (fC E G) (510+n) [i64 v]=fC E (G.set n v):=by
 rw[y5f _ _ _ (by simp[fC];omega)]
 unfold fC
 rw[List.append_assoc,List.set_append_right _ _ (by rw[List.length_map];omega),List.length_map,hE,Nat.add_sub_cancel_left,List.set_append_left _ _ (by rw[List.length_map];exact h),List.map_set,List.append_assoc]
set_option maxHeartbeats 1000000 in
set_option maxRecDepth 20000 in
theorem v5b (E:List UInt8)(G:List Int)(hE:E.length=510)(hG:G.length=256)(n:Int)(n0:0≤n)(n1:n<255)(a:UInt8) :
 AFm Tryz.prog 2 z4b [i64 n,.p (u8 a),.ref 1 0] [.cells q6u (fC E G),.cells 199 [.ref 0 0]] (v9 (.tup []) [.cells q6u (fC ((E.set n.toNat a).set (n.toNat+255) a) (G.set a.toNat n)),.cells 199 [.ref 0 0]]):=by
 have hl:(fC E G).length=767:=by simp[fC,hE,hG]
 generalize hL:fC E G=L at hl
 refine Q5 2 hT w3g rfl rfl w3h rfl rfl ?_
 refine q8 ?_
 refine x6 [10,14] [] hT z6 (by rfl) ?_
 refine⟨⟨n0,by omega⟩,?_⟩
 have hw:IntKind.i64.wrap (n+255)=n+255:=y7 _ (by omega) (by omega)
 refine y2h (decide_eq_true (by show 0+0+n.toNat*1+1≤L.length;omega)) ?_
 repeat refine q0f ?_
 rw[hw]
 refine⟨⟨by omega,by show n+255<510;omega⟩,?_⟩
 have hl1:∀ v:AV,(X7 L (0+0+n.toNat*1) [v]).length=767:=fun v=>by rw[X6 (by rw[hl];show 0+0+n.toNat*1+1≤767;omega),hl]
 refine y2h (decide_eq_true (by show 0+0+(n+255).toNat*1+1≤(X7 L (0+0+n.toNat*1) [_]).length;rw[hl1];omega)) ?_
 repeat refine q0f ?_
 repeat first|refine⟨rfl,?_⟩|refine⟨⟨⟨by omega,by show n+255<510;omega⟩,rfl⟩,?_⟩|refine⟨⟨⟨n0,by omega⟩,rfl⟩,?_⟩|refine q0f ?_
 refine q7 hT ?_
 repeat refine q0f ?_
 have ha:=a.toNat_lt
 refine⟨⟨by omega,by show ((a.toNat:Nat):Int)<256;omega⟩,?_⟩
 repeat refine q0f ?_
 refine y2h (decide_eq_true (by show 0+510+((a.toNat:Nat):Int).toNat*1+1≤(X7 (X7 L (0+0+n.toNat*1) [.p (u8 a)]) (0+0+(n+255).toNat*1) [.p (u8 a)]).length;rw[X6 (by rw[hl1];show 0+0+(n+255).toNat*1+1≤767;omega),hl1];omega)) ?_
 repeat refine q0f ?_
 refine w6g ⟨rfl,?_⟩
 show [ABlk.cells q6u (X7 (X7 (X7 L (0+0+n.toNat*1) [.p (u8 a)]) (0+0+(n+255).toNat*1) [.p (u8 a)]) (0+510+((a.toNat:Nat):Int).toNat*1) [i64 n]),.cells 199 [.ref 0 0]]=_
 rw[← hL,show 0+0+n.toNat*1=n.toNat by omega,show 0+0+(n+255).toNat*1=n.toNat+255 by omega,show 0+510+((a.toNat:Nat):Int).toNat*1=510+a.toNat by omega]
 rw[v5a (by omega),v5a (by rw[List.length_set];omega),u0x (by rw[List.length_set,List.length_set];exact hE) (by omega)]
open Gf in
def stT:Nat→List UInt8 × List Int
 |0=>(List.replicate 510 0,List.replicate 256 0)
 |k+1=>(((stT k).1.set k (pw k)).set (k+255) (pw k),(stT k).2.set (pw k).toNat k)
theorem q9j:∀ k,(stT k).1.length=510∧(stT k).2.length=256
 |0=>⟨List.length_replicate,List.length_replicate⟩
 |k+1=>by
  obtain⟨h1,h2⟩:=q9j k
  exact⟨by rw[stT,List.length_set,List.length_set,h1],by rw[stT,List.length_set,h2]⟩
abbrev w8x:AV:=.clo (.func z4b) [.ref 1 0]
def LF (k:Nat):List AV:=fC (stT k).1 (stT k).2
abbrev fH (L:Nat→List AV)(k:Nat):List ABlk:=[.cells q6u (L k),.cells 199 [.ref 0 0]]
set_option maxHeartbeats 1000000 in
set_option maxRecDepth 20000 in
theorem w8y:AFm Tryz.prog 2 x8p [w8x] (fH LF 0) (v9 (.tup []) (fH LF 255)):=by
 refine Q5 2 hT x8q rfl rfl x8r rfl rfl ?_
 obtain⟨N,hN⟩:∃ N:Nat,N=255:=⟨_,rfl⟩
 have hfin:fH LF 255=fH LF N:=by rw[hN]
 rw[hfin]
 clear hfin
 have step:∀ k:Nat,k<255→AFm Tryz.prog 2 z4b [i64 k,.p (u8 (Gf.pw k)),.ref 1 0] (fH LF k) (v9 (.tup []) (fH LF (k+1))):=fun k hk=>by
  obtain⟨h1,h2⟩:=q9j k
  have:=v5b (stT k).1 (stT k).2 h1 h2 k (by omega) (by omega) (Gf.pw k)
  rw[Int.toNat_natCast]at this
  exact this
 generalize LF=L at step ⊢
 refine z8 ⟨⟨19,[(0,w8x),(2,i64 1)]⟩,fH L 0⟩ True (q7 hT ?_) (fun _=>?_)
 ·repeat refine q0f ?_
  exact⟨z6n [0,2],trivial⟩
 refine q8 (q7 hT ?_)
 repeat refine q0f ?_
 refine z3 ?_
 refine y8 (fun n s=>∃ (k:Nat) (j a:Int),n+k=N∧j=k∧a=((Gf.pw k).toNat:Int)∧s=⟨⟨19,[(0,w8x),(2,i64 a),(4,i64 j)]⟩,fH L k⟩) N ⟨⟨19,_⟩,_⟩ (z6n [0,2,4]) ⟨0,0,1,by omega,rfl,rfl,rfl⟩ ?_
 rintro n s ⟨k,j,a,hnk,hj,ha,rfl⟩
 have hb:=(Gf.pw k).toNat_lt
 refine q8 (q7 hT ?_)
 repeat refine q0f ?_
 refine q8 (z2 (y4 (fun h=>?_) (fun h=>?_)))
 ·have h:=of_decide_eq_true (show decide (j<255)=true from h)
  have hk:k<255:=by omega
  refine z5 ?_
  have w:=step k hk
  have hu:(.p (.raw (.int .u8 (IntKind.u8.wrap a))):AV)=.p (u8 (Gf.pw k)):=by rw[ha,q0p,UInt8.ofNat_toNat]
  rw[← hu,← hj]at w
  have hwr:IntKind.i64.wrap (a*2 ^ (min (1:Int).toNat 64))=a*2:=by
   show IntKind.i64.wrap (a*2 ^ 1)=a*2
   rw[y7 _ (by omega) (by omega)];omega
  have hnx:=Gf.next_pw (Gf.pw k)
  have hpw:Gf.pw (k+1)=Gf.xt (Gf.pw k):=rfl
  refine y6 (fun st=>∃ x,x=(((Gf.pw (k+1)).toNat:Nat):Int)∧st=⟨⟨19,[(0,w8x),(2,i64 x),(4,i64 j)]⟩,fH L (k+1)⟩) (z3 (q8 (q7 hT ?_))) ?_
  ·repeat refine q0f ?_
   refine z8 ⟨⟨19,[(0,w8x),(2,i64 a),(4,i64 j)]⟩,fH L (k+1)⟩ True (q7 hT ?_) (fun _=>?_)
   ·repeat refine q0f ?_
    refine y9 w ?_
    repeat refine q0f ?_
    exact⟨z6n [0,2,4],trivial⟩
   refine y6 (fun st=>∃ x,x=a*2∧st=⟨⟨19,[(0,w8x),(2,i64 x),(4,i64 j)]⟩,fH L (k+1)⟩) (q7 hT ?_) ?_
   ·repeat refine q0f ?_
    exact⟨_,z6n [0,2,4],_,hwr,rfl⟩
   rintro _ ⟨x,hx,rfl⟩
   refine q8 (q7 hT ?_)
   repeat refine q0f ?_
   refine z2 (y4 (fun h=>?_) (fun h=>?_))
   ·have h:=of_decide_eq_true (show decide (x > 255)=true from h)
    rw[if_pos (by omega)]at hnx
    refine q7 hT ?_
    repeat refine q0f ?_
    refine⟨_,z6n [0,2,4],_,?_,rfl⟩
    show IntKind.i64.wrap ((BitVec.ofInt 64 x ^^^ BitVec.ofInt 64 285).toNat:Int)=((Gf.pw (k+1)).toNat:Int)
    have e1:BitVec.ofInt 64 x=BitVec.ofNat 64 ((Gf.pw k).toNat*2):=by
     rw[hx,ha,show (((Gf.pw k).toNat:Nat):Int)*2=(((Gf.pw k).toNat*2:Nat):Int) by omega];rfl
    have e2:(BitVec.ofInt 64 x ^^^ BitVec.ofInt 64 285).toNat=(Gf.xt (Gf.pw k)).toNat:=by rw[e1,← hnx];rfl
    have hb2:=(Gf.xt (Gf.pw k)).toNat_lt
    rw[e2,hpw,y7 _ (by omega) (by omega)]
   ·have h:=of_decide_eq_false (show decide (x > 255)=false from h)
    rw[if_neg (by omega)]at hnx
    refine z5 ⟨_,z6n [0,2,4],_,?_,rfl⟩
    rw[hpw,← hnx,hx,ha];omega
  ·rintro _ ⟨x,hx,rfl⟩
   refine q7 hT ?_
   repeat refine q0f ?_
   exact⟨n - 1,by omega,_,z6n [0,2,4],k+1,IntKind.i64.wrap (j+1),x,by omega,by rw[y7 _ (by omega) (by omega)];omega,hx,rfl⟩
 ·have h:=of_decide_eq_false (show decide (j<255)=false from h)
  refine x9 ?_
  rw[show k=N by omega]
  exact w6g ⟨rfl,rfl⟩
def fP:List PV:=((stT 255).1.map fun b=>u8 b)++((stT 255).2.map fun n=>.raw (.int .i64 n))++[.raw (.bool true)]
set_option maxHeartbeats 1000000 in
set_option maxRecDepth 20000 in
theorem q3a:AF Tryz.prog v3r [] [] (v9 (.p (.box fP)) []):=by
 refine v8 hT v3s rfl rfl v3t rfl ?_
 refine q8 (q7 hT ?_)
 have hf:LF 255=fP.map .p:=by unfold LF fC fP;simp;rfl
 have w:=w8y
 refine y6 (fun st=>∃ X,X=LF 0∧st=⟨⟨7,[(1,.ref 1 0)]⟩,[.cells q6u X,.cells 199 [.ref 0 0]]⟩) (q7 hT ?_) ?_
 ·exact⟨_,z6n [1],_,rfl,rfl⟩
 rintro _ ⟨X,hX,rfl⟩
 generalize LF=L at w hX hf
 generalize fP=F at hf ⊢
 subst hX
 refine z8 ⟨⟨7,[(1,.ref 1 0)]⟩,fH L 255⟩ True (q7 hT ?_) (fun _=>?_)
 ·repeat refine q0f ?_
  refine y9 w ?_
  repeat refine q0f ?_
  exact⟨z6n [1],trivial⟩
 refine q8 (q7 hT ?_)
 repeat refine q0f ?_
 refine Q1 (Q3 0 F rfl hf) ?_
 refine y5 ?_
 exact z9 [] ⟨rfl,rfl⟩ rfl
end Go.Proofs.YtinfbclgkghgaaaGreat.AL
namespace Go.Proofs.YtinfbclgkghgaaaGreat.AL
open Go Go.Proofs Go.Proofs.YtinfbclgkghgaaaGreat.AL.Crc
def leB (k n:Nat):z7:=(List.range k).map fun j=>UInt8.ofNat (n / 256 ^ j)
theorem U9 (k n:Nat):(leB k n).length=k:=by simp[leB]
theorem z6p (k n:Nat):leB (k+1) n=leB k n++[UInt8.ofNat (n / 256 ^ k)]:=by unfold leB;rw[List.range_succ,List.map_append];rfl
theorem y1y (l:z7)(b:UInt8):bx (l++[b])=bx l++[[u8 b]]:=by simp[bx]
theorem q1n (l r:z7):bx (l++r)=bx l++bx r:=by simp[bx]
theorem y1z (n k:Nat):n / 256 ^ (k+1)=n / 256 ^ k / 256:=by rw[Nat.pow_succ,Nat.div_div_eq_div_mul]
theorem u7q (q:Nat):((q:Int).fdiv (2 ^ (min ((8:Nat):Int).toNat 64)))=((q / 256:Nat):Int):=by
 rw[Int.fdiv_eq_ediv_of_nonneg _ (Int.pow_nonneg (by omega)),Int.natCast_ediv];rfl
theorem w8z (n:Nat):AF Tryz.prog y3v [i64 n] [] (v9 (.msl 0 1 0 4) [.row z1 1 (bx (leB 4 n))]):=by
 refine v8 hT w3b rfl rfl w3c rfl ?_
 refine q8 (q7 hT ?_)
 refine q8 (q7 hT ?_)
 refine Q1 (Wk.trans (X5 z1 1) (q2h 3 0 1 0 rfl)) ?_
 refine q8 (q8 (q7 hT ?_))
 refine z3 ?_
 refine y8 (fun m s=>∃ (i:Nat) (j v:Int) (L:z7),m+i=4∧j=i∧v=((n / 256 ^ i:Nat):Int)∧L=leB i n∧s=⟨⟨15,[(0,i64 v),(3,.msl 0 1 0 (bx L).length),(4,i64 j)]⟩,[.row z1 1 (bx L)]⟩) 4 ⟨⟨15,_⟩,[_]⟩ (q9 [0] [0,3,4] rfl) ⟨0,0,_,[],rfl,rfl,by rw[Nat.pow_zero,Nat.div_one],rfl,rfl⟩ ?_
 rintro m s ⟨i,j,v,L,hmi,rfl,rfl,hL,rfl⟩
 have hLl:L.length=i:=by rw[hL,U9]
 have hbl:=w9 L
 refine q8 (q7 hT ?_)
 refine q8 (z2 (y4 (fun h=>?_) (fun h=>?_)))
 ·have hi:i<4:=by
   have:=of_decide_eq_true (show decide ((i:Int)<4)=true from h)
   omega
  refine z5 ?_
  refine z8 ⟨⟨15,[(0,i64 ((n / 256 ^ (i+1):Nat):Int)),(3,.msl 0 1 0 (bx (L++[UInt8.ofNat (n / 256 ^ i)])).length),(4,i64 i)]⟩,[.row z1 1 (bx (L++[UInt8.ofNat (n / 256 ^ i)]))]⟩ True (z3 (q8 (W4 (fun k=>Nat.beq 3 k) hT ?_))) (fun _=>?_)
  ·refine⟨⟨rfl,rfl⟩,?_⟩
   refine⟨rfl,⟨?_,?_⟩,?_⟩
   ·show ((bx L).length+1)*1≤140737488355328
    omega
   ·show (bx L).length+1≤140737488355328
    omega
   refine q7 hT ?_
   rw[y1y,show u8 (UInt8.ofNat (n / 256 ^ i))=PV.raw (.int .u8 (IntKind.u8.wrap ((n / 256 ^ i:Nat):Int))) by rw[q0p],y1z,← u7q]
   exact⟨q9 [1] [0,3,4] rfl,trivial⟩
  ·refine q7 hT ?_
   refine⟨m - 1,by omega,_,q9 [0] [0,3,4] rfl,i+1,IntKind.i64.wrap ((i:Int)+1),_,_,by omega,?_,rfl,by rw[hL,z6p],rfl⟩
   rw[y7 _ (by omega) (by omega)];rfl
 ·have hi:¬ (i:Int)<4:=of_decide_eq_false h
  have hi4:i=4:=by omega
  subst hi4
  refine x9 ?_
  refine q8 (q7 hT ?_)
  refine y5 ?_
  subst hL
  have e:(bx (leB 4 n)).length=4:=by rw[hbl,U9]
  rw[show AV.msl 0 1 0 4=AV.msl 0 1 0 (bx (leB 4 n)).length by rw[e]]
  exact z9 [0] ⟨rfl,rfl⟩ rfl
theorem x9j (n:Nat):AF Tryz.prog y3v [i64 n] [] (v9 (bA (leB 4 n)) []):=z7y (w8z n) (by rw[w9,U9])
def J9 (l:z7):z7:=l++leB 4 (sum l).toNat
theorem q6g (l:z7):(J9 l).length=l.length+4:=by unfold J9;rw[List.length_append,U9]
theorem v5c (q:Nat):IntKind.u8.wrap ((q:Int).tmod 256)=((UInt8.ofNat q).toNat:Int):=by
 rw[show (256:Int)=((256:Nat):Int) from rfl,y5e,q0p,UInt8.toNat_ofNat',UInt8.toNat_ofNat'];omega
theorem x9k (l:z7)(hl:l.length≤1000000):AF Tryz.prog z5z [bA l] [] (v9 (.msl 0 1 0 (J9 l).length) [.row z1 1 (bx (J9 l))]):=by
 have hbl:=w9 l
 refine v8 hT x3n rfl rfl x3p rfl ?_
 refine q8 (q7 hT ?_)
 refine q8 (q7 hT ?_)
 refine y9 (w8t l hl) ?_
 have hn:=(sum l).isLt
 unfold J9
 generalize (sum l).toNat=n at hn
 refine q8 (q7 hT ?_)
 refine⟨⟨?_,?_⟩,?_⟩
 ·show (bx l).length*1≤140737488355328
  omega
 ·show (bx l).length≤140737488355328
  omega
 refine q8 (q8 (q7 hT ?_))
 refine z3 ?_
 refine y8 (fun m s=>∃ (i:Nat) (j v:Int) (L:z7),m+i=4∧j=i∧v=((n / 256 ^ i:Nat):Int)∧L=l++leB i n∧s=⟨⟨23,[(3,i64 v),(4,.msl 0 1 0 (bx L).length),(5,i64 j)]⟩,[.row z1 1 (bx L)]⟩) 4 ⟨⟨23,_⟩,[_]⟩ (q9 [0] [3,4,5] rfl) ⟨0,0,_,l,rfl,rfl,by rw[Nat.pow_zero,Nat.div_one],by simp[leB],rfl⟩ ?_
 rintro m s ⟨i,j,v,L,hmi,rfl,rfl,hL,rfl⟩
 have hLl:L.length=l.length+i:=by rw[hL,List.length_append,U9]
 have hbL:=w9 L
 refine q8 (q8 (q7 hT ?_))
 refine z2 (y4 (fun h=>?_) (fun h=>?_))
 ·have hi:i<4:=by
   have:=of_decide_eq_true (show decide ((i:Int)<4)=true from h)
   omega
  refine z5 ?_
  refine z8 ⟨⟨23,[(3,i64 ((n / 256 ^ (i+1):Nat):Int)),(4,.msl 0 1 0 (bx (L++[UInt8.ofNat (n / 256 ^ i)])).length),(5,i64 i)]⟩,[.row z1 1 (bx (L++[UInt8.ofNat (n / 256 ^ i)]))]⟩ True (z3 (q8 (W4 (fun k=>Nat.beq 4 k) hT ?_))) (fun _=>?_)
  ·refine⟨⟨rfl,rfl⟩,?_⟩
   refine⟨rfl,⟨?_,?_⟩,?_⟩
   ·show ((bx L).length+1)*1≤140737488355328
    omega
   ·show (bx L).length+1≤140737488355328
    omega
   refine q7 hT ?_
   have hq:n / 256 ^ i≤n:=Nat.div_le_self _ _
   rw[y1y,show u8 (UInt8.ofNat (n / 256 ^ i))=PV.raw (.int .u8 (IntKind.u8.wrap (((n / 256 ^ i:Nat):Int).tmod 256))) by rw[v5c],y1z,← z6m _ 256 (by omega)]
   exact⟨q9 [1] [3,4,5] rfl,trivial⟩
  ·refine q7 hT ?_
   refine⟨m - 1,by omega,_,q9 [0] [3,4,5] rfl,i+1,IntKind.i64.wrap ((i:Int)+1),_,_,by omega,?_,rfl,by rw[hL,z6p,List.append_assoc],rfl⟩
   rw[y7 _ (by omega) (by omega)];rfl
 ·have hi:¬ (i:Int)<4:=of_decide_eq_false h
  have hi4:i=4:=by omega
  subst hi4
  refine x9 ?_
  refine q8 (q7 hT ?_)
  refine y5 ?_
  subst hL
  rw[← w9 (l++leB 4 n)]
  exact z9 [0] ⟨rfl,rfl⟩ rfl
theorem w3y (l:z7)(hl:l.length≤1000000):AF Tryz.prog z5z [bA l] [] (v9 (bA (J9 l)) []):=z7y (x9k l hl) (by rw[w9])
end Go.Proofs.YtinfbclgkghgaaaGreat.AL
namespace Go.Proofs.YtinfbclgkghgaaaGreat.AL
open Go Go.Proofs
def val:z7→Nat
 |[]=>0
 |c :: r=>c.toNat % 128+128*val r
def y1p (n:Nat):z7:=if n<128 then [UInt8.ofNat n] else UInt8.ofNat (n % 128+128) :: y1p (n / 128)
termination_by n
decreasing_by omega
theorem w6h {n:Nat}(h:n<128):y1p n=[UInt8.ofNat n]:=by rw[y1p,if_pos h]
theorem v7y {n:Nat}(h:¬ n<128):y1p n=UInt8.ofNat (n % 128+128) :: y1p (n / 128):=by rw[y1p,if_neg h]
theorem q8g:∀ (k n:Nat),n<128 ^ (k+1)→(y1p n).length≤k+1
 |0,n,h=>by rw[w6h (by simpa using h)];simp
 |k+1,n,h=>by
  by_cases h1:n<128
  ·rw[w6h h1];simp
  ·rw[v7y h1,List.length_cons]
   have:=q8g k (n / 128) (by rw[Nat.pow_succ]at h;exact Nat.div_lt_of_lt_mul (by rw[Nat.mul_comm];exact h))
   omega
end Go.Proofs.YtinfbclgkghgaaaGreat.AL
namespace Go.Proofs.YtinfbclgkghgaaaGreat.AL
open Go Go.Proofs Go.Proofs.YtinfbclgkghgaaaGreat.AL.Crc
theorem x3y (s t:z7)(hs:s.length≤1000000):AF Tryz.prog q5z [bA s,bA t] [] (v9 (bl (s==t)) []):=by
 refine v8 hT z3c rfl rfl z3d rfl ?_
 refine q8 (q7 hT ?_)
 refine q8 (q8 (q7 hT ?_))
 refine z2 (y4 (fun h=>?_) (fun h=>?_))
 ·have hne:(s==t)=false:=by
   have h:(((bx s).length:Int) != ((bx t).length:Int))=true:=h
   rw[w9,w9]at h
   rw[beq_eq_false_iff_ne]
   rintro rfl
   simp at h
  refine q8 (q7 hT ?_)
  refine y5 ?_
  rw[hne]
  exact z9 [] ⟨rfl,rfl⟩ rfl
 have hlen:s.length=t.length:=by
  have h:(((bx s).length:Int) != ((bx t).length:Int))=false:=h
  rw[w9,w9]at h
  have h:(s.length:Int)=t.length:=by simpa using h
  omega
 refine z5 ?_
 refine q8 (q8 (q7 hT ?_))
 refine z3 ?_
 refine y8 (fun n st=>∃ (i:Nat) (j:Int),n+i=s.length∧j=i∧s.take i=t.take i∧st=⟨⟨26,[(0,bA s),(1,bA t),(12,i64 s.length),(13,i64 j)]⟩,[]⟩) s.length ⟨⟨26,_⟩,[]⟩ (q9 [] [0,1,12,13] rfl) ⟨0,_,rfl,rfl,rfl,by rw[← w9 s];rfl⟩ ?_
 rintro n st ⟨i,j,hni,rfl,ht,rfl⟩
 refine q8 (q7 hT ?_)
 refine q8 (z2 (y4 (fun h=>?_) (fun h=>?_)))
 ·have hi:i<s.length:=by
   have:=of_decide_eq_true (show decide ((i:Int)<(s.length:Int))=true from h)
   omega
  have hx:(bx s)[((i:Nat):Int).toNat]?=some [u8 s[i]]:=by
   rw[Int.toNat_natCast,bx,List.getElem?_map,List.getElem?_eq_getElem hi];rfl
  have hy:(bx t)[((i:Nat):Int).toNat]?=some [u8 (t[i]'(by omega))]:=by
   rw[Int.toNat_natCast,bx,List.getElem?_map,List.getElem?_eq_getElem (by omega)];rfl
  refine z5 ?_
  refine q8 (z3 (q8 (q7 hT ?_)))
  refine q8 ?_
  refine x6 [] [] hT z6 (by rfl) ?_
  refine⟨Int.natCast_nonneg _,v7 hx ?_⟩
  refine⟨Int.natCast_nonneg _,v7 hy ?_⟩
  refine z2 (y4 (fun h2=>?_) (fun h2=>?_))
  ·have hne:(s==t)=false:=by
    rw[beq_eq_false_iff_ne]
    rintro rfl
    have h2:(((s[i].toNat:Nat):Int) != ((s[i].toNat:Nat):Int))=true:=h2
    simp at h2
   refine q8 (q7 hT ?_)
   refine y5 ?_
   rw[hne]
   exact z9 [] ⟨rfl,rfl⟩ rfl
  ·have he:s[i]=t[i]'(by omega):=by
    have h2:(((s[i].toNat:Nat):Int) != (((t[i]'(by omega)).toNat:Nat):Int))=false:=h2
    have h2:(s[i].toNat:Int)=((t[i]'(by omega)).toNat:Int):=by simpa using h2
    have h2:s[i].toNat=(t[i]'(by omega)).toNat:=by omega
    exact UInt8.toNat_inj.mp h2
   refine z5 ?_
   refine q7 hT ?_
   refine⟨n - 1,by omega,_,q9 [] [0,1,12,13] rfl,i+1,IntKind.i64.wrap ((i:Int)+1),by omega,?_,?_,rfl⟩
   ·rw[y7 _ (by omega) (by omega)];rfl
   ·rw[List.take_add_one,List.take_add_one,ht,List.getElem?_eq_getElem hi,List.getElem?_eq_getElem (show i<t.length by omega),he]
 ·refine x9 ?_
  have hi:i=s.length:=by
   have:=of_decide_eq_false (show decide ((i:Int)<(s.length:Int))=false from h)
   omega
  have he:(s==t)=true:=by
   rw[beq_iff_eq]
   rw[hi,List.take_length,hlen,List.take_length]at ht
   exact ht
  refine q8 (q7 hT ?_)
  refine y5 ?_
  rw[he]
  exact z9 [] ⟨rfl,rfl⟩ rfl
theorem x9m (l:z7)(hl:l.length≤1000000):AF Tryz.prog q7u [bA l] [] (v9 (bA l) []):=by
 have hb:=w9 l
 generalize hx:bx l=xs at hb
 show AF Tryz.prog q7u [.p (.sl 1 (bx l))] [] (v9 (.p (.sl 1 (bx l))) [])
 rw[hx]
 refine z7y (t:=z1) (n:=xs.length) ?_ rfl
 refine v8 hT y7r rfl rfl y7s rfl ?_
 refine q8 (q7 hT ?_)
 refine q8 (q8 (q7 hT ?_))
 intro b hn
 refine z2 (y4 (fun h=>?_) (fun h=>?_))
 ·refine q8 (q7 hT ?_)
  refine y5 ?_
  rw[hn h]
  exact x2h z1 1 ⟨rfl,rfl⟩
 ·refine z5 ?_
  refine q8 (q7 hT ?_)
  refine⟨rfl,⟨?_,?_⟩,?_⟩
  ·show (0+xs.length)*1≤_;omega
  ·show 0+xs.length≤_;omega
  refine y5 ?_
  exact z9 [1] ⟨rfl,rfl⟩ rfl
theorem x9n (n:Int)(h0:0≤n)(hn:n≤1000000):AF Tryz.prog z4c [.p (.raw (.slice none 0 0)),i64 n] [] (v9 (.msl 0 1 0 0) [.row z1 1 []]):=by
 refine v8 hT z4d rfl rfl z4e rfl ?_
 refine q8 (q7 hT ?_)
 refine q8 (q8 (q7 hT ?_))
 refine z2 (y4 (fun h=>?_) (fun h=>?_))
 ·have:=of_decide_eq_true (show decide (n<0)=true from h)
  omega
 refine z5 ?_
 have e:IntKind.i64.wrap (n - IntKind.i64.wrap (0 - 0))=n:=by rw[y7 (0 - 0) (by omega) (by omega),y7 _ (by omega) (by omega)];omega
 refine z8 ⟨⟨27,[(0,.msl 0 1 0 0)]⟩,[.row z1 1 []]⟩ True (q8 (q7 hT ?_)) (fun _=>?_)
 ·refine q8 (q7 hT ?_)
  refine z2 (y4 (fun h=>?_) (fun h=>?_))
  ·have h:decide (IntKind.i64.wrap (n - IntKind.i64.wrap (0 - 0)) > 0)=true:=h
   refine q7 hT ?_
   refine⟨⟨rfl,rfl⟩,?_⟩
   refine⟨⟨?_,?_,?_⟩,?_⟩
   ·show 0≤IntKind.i64.wrap (n - IntKind.i64.wrap (0 - 0))
    rw[e];exact h0
   ·show IntKind.i64.wrap (n - IntKind.i64.wrap (0 - 0))*1≤140737488355328
    rw[e];omega
   ·show IntKind.i64.wrap (n - IntKind.i64.wrap (0 - 0))≤140737488355328
    rw[e];omega
   refine⟨⟨Int.le_refl _,Int.le_refl _,Int.natCast_nonneg _⟩,?_⟩
   refine⟨Wk.trans (q9 [0] [0] rfl) (Wk.trans (y4v 0 0 rfl) ?_),trivial⟩
   exact q9 [0] [0] rfl
  ·refine z5 ?_
   exact⟨Wk.trans (X5 z1 1) (Wk.trans (q2h 0 0 1 0 rfl) (q9 [0] [0] rfl)),trivial⟩
 ·refine q8 (q7 hT ?_)
  refine y5 ?_
  exact z9 [0] ⟨rfl,rfl⟩ rfl
end Go.Proofs.YtinfbclgkghgaaaGreat.AL
namespace Go.Proofs.YtinfbclgkghgaaaGreat.AL
open Go Go.Proofs Go.Proofs.YtinfbclgkghgaaaGreat.AL.Crc
def z4 (Ls:List z7):List (List PV):=Ls.map fun l=>[bP l]
theorem Q2 (Ls:List z7):(z4 Ls).length=Ls.length:=by simp[z4]
theorem Q4 {Ls:List z7}{i:Nat}{l:z7}(h:Ls[i]?=some l):(z4 Ls)[i]?=some [bP l]:=by rw[z4,List.getElem?_map,h];rfl
theorem y5g (Ls:List z7)(h1:Ls.length≤1000)(h2:Ls.flatten.length≤1000000):AF Tryz.prog q4y [.p (.sl 1 (z4 Ls))] [] (v9 (.msl 0 1 0 (bx Ls.flatten).length) [.row z1 1 (bx Ls.flatten)]):=by
 have sub:∀ i,(Ls.take i).flatten.length≤1000000:=fun i=>by
  refine Nat.le_trans ?_ h2
  conv=>rhs;rw[← List.take_append_drop i Ls,List.flatten_append,List.length_append]
  omega
 refine v8 hT z0w rfl rfl z0x rfl ?_
 refine q8 (q7 hT ?_)
 refine q8 (q7 hT ?_)
 refine y6 (fun s1=>∃ n:Int,0≤n∧n≤1000000∧s1=⟨⟨36,[(0,.p (.sl 1 (z4 Ls))),(3,i64 n)]⟩,[]⟩) (q8 (q7 hT ?_)) ?_
 ·refine z3 ?_
  refine y8 (fun m s=>∃ (i:Nat) (j v:Int),m+i=Ls.length∧j=i∧v=((Ls.take i).flatten.length:Int)∧s=⟨⟨36,[(0,.p (.sl 1 (z4 Ls))),(3,i64 v),(9,.p (.sl 1 (z4 Ls))),(10,i64 Ls.length),(11,i64 j)]⟩,[]⟩) Ls.length ⟨⟨36,_⟩,[]⟩ (q9 [] [0,3,9,10,11] rfl) ⟨0,0,0,rfl,rfl,rfl,by rw[← Q2 Ls];rfl⟩ ?_
  rintro m s ⟨i,j,v,hmi,rfl,hv,rfl⟩
  have hs:=sub i
  refine q8 (q7 hT ?_)
  refine q8 (z2 (y4 (fun h=>?_) (fun h=>?_)))
  ·have hi:i<Ls.length:=by
    have:=of_decide_eq_true (show decide ((i:Int)<(Ls.length:Int))=true from h)
    omega
   have hx:=List.getElem?_eq_getElem hi
   have htk:Ls.take (i+1)=Ls.take i++[Ls[i]]:=by rw[List.take_add_one,hx];rfl
   generalize Ls[i]=l at hx htk
   have hxp:(z4 Ls)[((i:Nat):Int).toNat]?=some [bP l]:=by rw[Int.toNat_natCast];exact Q4 hx
   have hs2:=sub (i+1)
   have hfl:(Ls.take (i+1)).flatten.length=(Ls.take i).flatten.length+l.length:=by rw[htk,List.flatten_append,List.length_append];simp
   have hw:IntKind.i64.wrap (v+((bx l).length:Int))=((Ls.take (i+1)).flatten.length:Int):=by
    rw[hv,w9,y7 _ (by omega) (by omega)];omega
   refine z5 ?_
   refine z8 ⟨⟨36,[(0,.p (.sl 1 (z4 Ls))),(3,i64 ((Ls.take (i+1)).flatten.length:Int)),(9,.p (.sl 1 (z4 Ls))),(10,i64 Ls.length),(11,i64 i)]⟩,[]⟩ True (z3 (q8 (q7 hT ?_))) (fun _=>?_)
   ·refine⟨Int.natCast_nonneg _,v7 hxp ?_⟩
    refine q8 (q7 hT ?_)
    refine q8 (q7 hT ?_)
    refine z2 (y4 (fun h3=>?_) (fun h3=>?_))
    ·have h3:decide (IntKind.i64.wrap (v+((bx l).length:Int))<0)=true:=h3
     have h3:=of_decide_eq_true h3
     rw[hw]at h3;omega
    ·refine z5 ?_
     rw[← hw]
     exact⟨q9 [] [0,3,9,10,11] rfl,trivial⟩
   ·refine q7 hT ?_
    refine⟨m - 1,by omega,_,q9 [] [0,3,9,10,11] rfl,i+1,IntKind.i64.wrap ((i:Int)+1),_,by omega,?_,rfl,rfl⟩
    rw[y7 _ (by omega) (by omega)];rfl
  ·refine x9 ?_
   exact⟨_,q9 [] [0,3] rfl,v,by omega,by omega,rfl⟩
 rintro _ ⟨n,n0,n1,rfl⟩
 refine q8 (q7 hT ?_)
 refine y9 (x9n n n0 n1) ?_
 refine q8 (q8 (q7 hT ?_))
 refine z3 ?_
 refine y8 (fun m s=>∃ (i:Nat) (j:Int) (L:z7),m+i=Ls.length∧j=i∧L=(Ls.take i).flatten∧s=⟨⟨36,[(6,.msl 0 1 0 (bx L).length),(25,.p (.sl 1 (z4 Ls))),(26,i64 Ls.length),(27,i64 j)]⟩,[.row z1 1 (bx L)]⟩) Ls.length ⟨⟨36,_⟩,[_]⟩ (q9 [0] [6,25,26,27] rfl) ⟨0,0,[],rfl,rfl,rfl,by rw[← Q2 Ls];rfl⟩ ?_
 rintro m s ⟨i,j,L,hmi,rfl,hL,rfl⟩
 have hs:=sub i
 rw[← hL]at hs
 have hbL:=w9 L
 refine q8 (q7 hT ?_)
 refine q8 (z2 (y4 (fun h=>?_) (fun h=>?_)))
 ·have hi:i<Ls.length:=by
   have:=of_decide_eq_true (show decide ((i:Int)<(Ls.length:Int))=true from h)
   omega
  have hx:=List.getElem?_eq_getElem hi
  have htk:Ls.take (i+1)=Ls.take i++[Ls[i]]:=by rw[List.take_add_one,hx];rfl
  generalize Ls[i]=l at hx htk
  have hxp:(z4 Ls)[((i:Nat):Int).toNat]?=some [bP l]:=by rw[Int.toNat_natCast];exact Q4 hx
  have hs2:=sub (i+1)
  have hfl:(Ls.take (i+1)).flatten=L++l:=by rw[htk,List.flatten_append,hL];simp
  rw[hfl,List.length_append]at hs2
  have hbl:=w9 l
  refine z5 ?_
  refine z8 ⟨⟨36,[(6,.msl 0 1 0 (bx (L++l)).length),(25,.p (.sl 1 (z4 Ls))),(26,i64 Ls.length),(27,i64 i)]⟩,[.row z1 1 (bx (L++l))]⟩ True (z3 (q8 (q7 hT ?_))) (fun _=>?_)
  ·refine⟨Int.natCast_nonneg _,v7 hxp ?_⟩
   refine q7 hT ?_
   refine⟨rfl,⟨?_,?_⟩,?_⟩
   ·show ((bx L).length+(bx l).length)*1≤140737488355328
    omega
   ·show (bx L).length+(bx l).length≤140737488355328
    omega
   rw[q1n]
   exact⟨q9 [1] [6,25,26,27] rfl,trivial⟩
  ·refine q7 hT ?_
   refine⟨m - 1,by omega,_,q9 [0] [6,25,26,27] rfl,i+1,IntKind.i64.wrap ((i:Int)+1),L++l,by omega,?_,hfl.symm,rfl⟩
   rw[y7 _ (by omega) (by omega)];rfl
 ·have hi:¬ (i:Int)<(Ls.length:Int):=of_decide_eq_false h
  have hil:i=Ls.length:=by omega
  subst hil
  rw[List.take_length]at hL
  subst hL
  refine x9 ?_
  refine q8 (q7 hT ?_)
  refine y5 ?_
  exact z9 [0] ⟨rfl,rfl⟩ rfl
theorem y8d (Ls:List z7)(h1:Ls.length≤1000)(h2:Ls.flatten.length≤1000000):AF Tryz.prog q4y [.p (.sl 1 (z4 Ls))] [] (v9 (bA Ls.flatten) []):=z7y (y5g Ls h1 h2) rfl
theorem v5d (l:z7)(hl:l.length≤900000):AF Tryz.prog w2v [bA l] [] (v9 (bA (J9 l)) []):=by
 have w:=y8d [l,leB 4 (sum l).toNat] (by simp) (by simp[U9];omega)
 have e:[l,leB 4 (sum l).toNat].flatten=J9 l:=by simp[J9]
 rw[e]at w
 refine v8 hT w2w rfl rfl w2x rfl ?_
 refine q8 (q7 hT ?_)
 refine q8 (W4 (fun k=>Nat.beq 4 k) hT ?_)
 refine y9 (w6d l (by omega)) ?_
 refine y9 (x9j (sum l).toNat) ?_
 refine⟨⟨rfl,rfl⟩,?_⟩
 refine y9 w ?_
 refine y5 ?_
 exact z9 [] ⟨rfl,rfl⟩ rfl
def q0i (l:z7):Bool:=match decide (4≤l.length) with
 |true=>l.drop (l.length - 4)==leB 4 (sum (l.take (l.length - 4))).toNat
 |false=>false
theorem x3z (l:z7)(n:Nat):bx (l.drop n)=(bx l).drop n:=by rw[bx,bx,List.map_drop]
theorem y2a (l:z7)(n:Nat):bx (l.take n)=(bx l).take n:=by rw[bx,bx,List.map_take]
theorem w9a (l:z7)(hl:l.length≤1000000):AF Tryz.prog x7m [bA l] [] (v9 (bl (q0i l)) []):=by
 have hbl:=w9 l
 refine v8 hT x7n rfl rfl x7p rfl ?_
 refine q8 (q7 hT ?_)
 have hw:IntKind.i64.wrap (((bx l).length:Int) - 4)=(l.length:Int) - 4:=by rw[hbl,y7 _ (by omega) (by omega)]
 refine z8 ⟨⟨20,[(0,bA l),(3,i64 ((l.length:Int) - 4))]⟩,[]⟩ True (q7 hT ?_) (fun _=>?_)
 ·rw[← hw]
  exact⟨q9 [] [0,3] rfl,trivial⟩
 refine q8 ?_
 refine x6 [] [] hT z6 (by rfl) ?_
 refine y4 (fun h=>?_) (fun h=>?_)
 ·have h:=of_decide_eq_true (show decide ((l.length:Int) - 4≥0)=true from h)
  have e1:((bx l).take ((l.length:Int) - 4).toNat).drop (0:Int).toNat=bx (l.take (l.length - 4)):=by
   rw[show ((l.length:Int) - 4).toNat=l.length - 4 by omega,y2a];rfl
  have e2:((bx l).take (((bx l).length:Int)).toNat).drop ((l.length:Int) - 4).toNat=bx (l.drop (l.length - 4)):=by
   rw[show ((l.length:Int) - 4).toNat=l.length - 4 by omega,Int.toNat_natCast,List.take_length,x3z]
  have w1:AF Tryz.prog y9e [.p (.sl 1 (((bx l).take ((l.length:Int) - 4).toNat).drop (0:Int).toNat))] [] (v9 (i64 ((sum (l.take (l.length - 4))).toNat:Int)) []):=by
   rw[e1];exact w6d _ (by rw[List.length_take];omega)
  have w3:AF Tryz.prog q5z [.p (.sl 1 (((bx l).take (((bx l).length:Int)).toNat).drop ((l.length:Int) - 4).toNat)),bA (leB 4 (sum (l.take (l.length - 4))).toNat)] [] (v9 (bl (l.drop (l.length - 4)==leB 4 (sum (l.take (l.length - 4))).toNat)) []):=by
   rw[e2];exact x3y _ _ (by rw[List.length_drop];omega)
  have ew:q0i l=(l.drop (l.length - 4)==leB 4 (sum (l.take (l.length - 4))).toNat):=by unfold q0i;rw[decide_eq_true (show 4≤l.length by omega)]
  refine⟨⟨h,by omega,Int.le_refl _⟩,?_⟩
  refine⟨⟨Int.le_refl _,h,by omega⟩,?_⟩
  refine⟨_,w7 w1 _ rfl rfl,?_⟩
  refine⟨_,w7 (x9j _) _ rfl rfl,?_⟩
  refine⟨_,w7 w3 _ rfl rfl,?_⟩
  refine y5 ?_
  rw[ew]
  exact z9 [] ⟨rfl,rfl⟩ rfl
 ·have h:=of_decide_eq_false (show decide ((l.length:Int) - 4≥0)=false from h)
  have ew:q0i l=false:=by unfold q0i;rw[decide_eq_false (by omega)]
  refine y5 ?_
  rw[ew]
  exact z9 [] ⟨rfl,rfl⟩ rfl
end Go.Proofs.YtinfbclgkghgaaaGreat.AL
namespace Go.Proofs.YtinfbclgkghgaaaGreat.AL
open Go Go.Proofs Go.Proofs.YtinfbclgkghgaaaGreat.AL.Crc
theorem ixg {l:List Int}{i:Nat}{c:Int}(h:l[i]?=some c):(ix l)[i]?=some [.raw (.int .i64 c)]:=by rw[ix,List.getElem?_map,h];rfl
theorem ixl (l:List Int):(ix l).length=l.length:=by simp[ix]
def Y1 (n:Int):Bool:=decide (0≤n)&&decide (n≤4294967295)
theorem x9p (l:List Int)(hl:l.length≤1000000):AF Tryz.prog y7v [.p (.sl 1 (ix l))] [] (v9 (bl (l.all Y1)) []):=by
 refine v8 hT y7w rfl rfl y7x rfl ?_
 refine q8 (q7 hT ?_)
 refine z8 ⟨⟨18,[]⟩,[]⟩ (l.all Y1=true) (q8 (q7 hT ?_)) ?_
 ·refine z3 ?_
  refine y8 (fun n s=>∃ (i:Nat) (j:Int),n+i=l.length∧j=i∧(l.take i).all Y1=true∧s=⟨⟨18,[(5,.p (.sl 1 (ix l))),(6,i64 l.length),(7,i64 j)]⟩,[]⟩) l.length ⟨⟨18,_⟩,[]⟩ (q9 [] [5,6,7] rfl) ⟨0,0,rfl,rfl,rfl,by rw[← ixl l];rfl⟩ ?_
  rintro n s ⟨i,j,hni,rfl,ht,rfl⟩
  refine q8 (q7 hT ?_)
  refine q8 (z2 (y4 (fun h=>?_) (fun h=>?_)))
  ·have hi:i<l.length:=by
    have:=of_decide_eq_true (show decide ((i:Int)<(l.length:Int))=true from h)
    omega
   have hx:=List.getElem?_eq_getElem hi
   have hmem:=List.getElem_mem hi
   have htk:l.take (i+1)=l.take i++[l[i]]:=by rw[List.take_add_one,hx];rfl
   generalize l[i]=c at hx htk hmem
   have hxp:(ix l)[((i:Nat):Int).toNat]?=some [.raw (.int .i64 c)]:=by rw[Int.toNat_natCast];exact ixg hx
   have bad:Y1 c=false→l.all Y1=false:=fun h=>by
    rw[List.all_eq_false];exact⟨c,hmem,by rw[h];simp⟩
   refine z5 ?_
   refine z8 ⟨⟨18,[(5,.p (.sl 1 (ix l))),(6,i64 l.length),(7,i64 i)]⟩,[]⟩ (Y1 c=true) (z3 (q8 (q7 hT ?_))) ?_
   ·refine⟨Int.natCast_nonneg _,v7 hxp ?_⟩
    refine q8 (q7 hT ?_)
    refine y4 (fun h2=>?_) (fun h2=>?_)
    ·have h2:=of_decide_eq_true (show decide (c<0)=true from h2)
     refine z2 ?_
     refine q8 (q7 hT ?_)
     refine y5 ?_
     rw[bad (by unfold Y1;rw[decide_eq_false (by omega)];rfl)]
     exact z9 [] ⟨rfl,rfl⟩ rfl
    ·have h2:=of_decide_eq_false (show decide (c<0)=false from h2)
     refine z2 (y4 (fun h3=>?_) (fun h3=>?_))
     ·have h3:=of_decide_eq_true (show decide (c > 4294967295)=true from h3)
      refine q8 (q7 hT ?_)
      refine y5 ?_
      rw[bad (by unfold Y1;rw[decide_eq_false (show ¬ c≤4294967295 by omega),Bool.and_false])]
      exact z9 [] ⟨rfl,rfl⟩ rfl
     ·have h3:=of_decide_eq_false (show decide (c > 4294967295)=false from h3)
      exact z5 ⟨q9 [] [5,6,7] rfl,by unfold Y1;rw[decide_eq_true (show 0≤c by omega),decide_eq_true (show c≤4294967295 by omega)];rfl⟩
   ·intro hc
    refine q7 hT ?_
    refine⟨n - 1,by omega,_,q9 [] [5,6,7] rfl,i+1,IntKind.i64.wrap ((i:Int)+1),by omega,?_,?_,rfl⟩
    ·rw[y7 _ (by omega) (by omega)];rfl
    ·rw[htk,List.all_append,ht];simp[hc]
  ·have hi:¬ (i:Int)<(l.length:Int):=of_decide_eq_false h
   have hil:i=l.length:=by omega
   subst hil
   rw[List.take_length]at ht
   refine x9 ?_
   exact⟨q9 [] [] rfl,ht⟩
 ·intro h
  rw[h]
  refine q8 (q7 hT ?_)
  refine y5 ?_
  exact z9 [] ⟨rfl,rfl⟩ rfl
structure Blk where
 kind:Int
 vol:Int
 addr:Int
 epoch:Int
 seq:Int
 body:z7
 deriving DecidableEq
abbrev Blk.pv (b:Blk):List PV:=[.raw (.int .i64 b.kind),.raw (.int .i64 b.vol),.raw (.int .i64 b.addr),.raw (.int .i64 b.epoch),.raw (.int .i64 b.seq),bP b.body]
abbrev Blk.av (b:Blk):AV:=.agg [i64 b.kind,i64 b.vol,i64 b.addr,i64 b.epoch,i64 b.seq,bA b.body]
def Blk.nums (b:Blk):Bool:=decide (b.kind≥1)&&decide (b.kind≤4)&&[b.vol,b.addr,b.epoch,b.seq].all Y1
theorem q7v (b:Blk):AF Tryz.prog y0v [b.av] [] (v9 (bl b.nums) []):=by
 refine v8 hT y0w rfl rfl y0x rfl ?_
 refine q8 (q7 hT ?_)
 refine Q1 (Q3 0 b.pv rfl rfl) ?_
 unfold Blk.nums
 refine q8 (W4 (fun k=>Nat.beq 17 k) hT ?_)
 refine y4 (fun h1=>?_) (fun h1=>?_)
 ·rw[show decide (b.kind≥1)=true from h1]
  refine y4 (fun h2=>?_) (fun h2=>?_)
  ·rw[show decide (b.kind≤4)=true from h2]
   refine⟨⟨rfl,rfl⟩,?_⟩
   refine y9 (w7 (x9p [b.vol,b.addr,b.epoch,b.seq] (by simp)) _ rfl rfl) ?_
   refine y5 ?_
   exact z9 [] ⟨rfl,rfl⟩ rfl
  ·rw[show decide (b.kind≤4)=false from h2]
   refine y5 ?_
   exact z9 [] ⟨rfl,rfl⟩ rfl
 ·rw[show decide (b.kind≥1)=false from h1]
  refine y5 ?_
  exact z9 [] ⟨rfl,rfl⟩ rfl
def z3f (w:Nat)(l:List Nat):z7:=l.flatMap (leB w)
theorem z6q (w:Nat)(l:List Nat):(z3f w l).length=w*l.length:=by
 unfold z3f
 induction l with
 |nil=>simp
 |cons n r ih=>rw[List.flatMap_cons,List.length_append,U9,ih,List.length_cons,Nat.mul_succ];omega
theorem w9b (w:Nat)(l:List Nat)(n:Nat):z3f w (l++[n])=z3f w l++leB w n:=by unfold z3f;simp
def nx (l:List Nat):List (List PV):=l.map fun n:Nat=>[.raw (.int .i64 (n:Int))]
theorem u0y (l:List Nat):(nx l).length=l.length:=by simp[nx]
theorem u0z {l:List Nat}{i:Nat}{c:Nat}(h:l[i]?=some c):(nx l)[i]?=some [.raw (.int .i64 (c:Int))]:=by rw[nx,List.getElem?_map,h];rfl
theorem y9x (xs:List (List PV))(w:Nat)(l:List Nat)(hx:xs.length≤1000)(hw:w≤8)(hl:l.length≤100) :
 AFm Tryz.prog 0 x7c [.msl 0 1 0 xs.length,i64 w,.p (.sl 1 (nx l))] [.row z1 1 xs] (v9 (.msl 0 1 0 (xs++bx (z3f w l)).length) [.row z1 1 (xs++bx (z3f w l))]):=by
 refine Q5 0 hT x7d rfl rfl x7e rfl rfl ?_
 refine q8 (q7 hT ?_)
 refine q8 (q8 (q7 hT ?_))
 refine z3 ?_
 refine y8 (fun m s=>∃ (i:Nat) (j:Int) (L:List (List PV)),m+i=l.length∧j=i∧L=xs++bx (z3f w (l.take i))∧s=⟨⟨28,[(0,.msl 0 1 0 L.length),(1,i64 w),(9,.p (.sl 1 (nx l))),(10,i64 l.length),(11,i64 j)]⟩,[.row z1 1 L]⟩) l.length ⟨⟨28,_⟩,[_]⟩ (q9 [0] [0,1,9,10,11] rfl) ⟨0,0,xs,rfl,rfl,by simp[z3f,bx],by rw[← u0y l];rfl⟩ ?_
 rintro m s ⟨i,j,L,hmi,rfl,hL,rfl⟩
 have hLl:L.length≤2000:=by
  have h8:w*(l.take i).length≤8*100:=Nat.mul_le_mul hw (by rw[List.length_take];omega)
  rw[hL,List.length_append,w9,z6q];omega
 refine q8 (q7 hT ?_)
 refine q8 (z2 (y4 (fun h=>?_) (fun h=>?_)))
 ·have hi:i<l.length:=by
   have:=of_decide_eq_true (show decide ((i:Int)<(l.length:Int))=true from h)
   omega
  have hx:=List.getElem?_eq_getElem hi
  have htk:l.take (i+1)=l.take i++[l[i]]:=by rw[List.take_add_one,hx];rfl
  generalize l[i]=n at hx htk
  have hxp:(nx l)[((i:Nat):Int).toNat]?=some [.raw (.int .i64 (n:Int))]:=by rw[Int.toNat_natCast];exact u0z hx
  refine z5 ?_
  refine z8 ⟨⟨28,[(0,.msl 0 1 0 (L++bx (leB w n)).length),(1,i64 w),(9,.p (.sl 1 (nx l))),(10,i64 l.length),(11,i64 i)]⟩,[.row z1 1 (L++bx (leB w n))]⟩ True (z3 (q8 (q7 hT ?_))) (fun _=>?_)
  ·refine⟨Int.natCast_nonneg _,v7 hxp ?_⟩
   refine q8 (q7 hT ?_)
   refine z3 ?_
   refine y8 (fun m s=>∃ (k:Nat) (j v:Int) (M:List (List PV)),m+k=w∧j=k∧v=((n / 256 ^ k:Nat):Int)∧M=L++bx (leB k n)∧s=⟨⟨28,[(0,.msl 0 1 0 M.length),(1,i64 w),(8,i64 v),(9,.p (.sl 1 (nx l))),(10,i64 l.length),(11,i64 i),(15,i64 w),(16,i64 j)]⟩,[.row z1 1 M]⟩) w ⟨⟨28,_⟩,[_]⟩ (q9 [0] [0,1,8,9,10,11,15,16] rfl) ⟨0,0,_,L,rfl,rfl,by rw[Nat.pow_zero,Nat.div_one],by simp[leB,bx],rfl⟩ ?_
   rintro q s ⟨k,j,v,M,hmk,rfl,rfl,hM,rfl⟩
   have hMl:M.length≤2010:=by rw[hM,List.length_append,w9,U9];omega
   refine q8 (q7 hT ?_)
   refine q8 (z2 (y4 (fun h=>?_) (fun h=>?_)))
   ·have hk:k<w:=by
     have:=of_decide_eq_true (show decide ((k:Int)<(w:Int))=true from h)
     omega
    refine z5 ?_
    refine z8 ⟨⟨28,[(0,.msl 0 1 0 (M++[[u8 (UInt8.ofNat (n / 256 ^ k))]]).length),(1,i64 w),(8,i64 ((n / 256 ^ (k+1):Nat):Int)),(9,.p (.sl 1 (nx l))),(10,i64 l.length),(11,i64 i),(15,i64 w),(16,i64 k)]⟩,[.row z1 1 (M++[[u8 (UInt8.ofNat (n / 256 ^ k))]])]⟩ True (z3 (q8 (W4 (fun k=>Nat.beq 3 k) hT ?_))) (fun _=>?_)
    ·refine⟨⟨rfl,rfl⟩,?_⟩
     refine⟨rfl,⟨?_,?_⟩,?_⟩
     ·show (M.length+1)*1≤140737488355328
      omega
     ·show M.length+1≤140737488355328
      omega
     refine q7 hT ?_
     rw[show u8 (UInt8.ofNat (n / 256 ^ k))=PV.raw (.int .u8 (IntKind.u8.wrap ((n / 256 ^ k:Nat):Int))) by rw[q0p],y1z,← u7q]
     exact⟨q9 [1] [0,1,8,9,10,11,15,16] rfl,trivial⟩
    ·refine q7 hT ?_
     refine⟨q - 1,by omega,_,q9 [0] [0,1,8,9,10,11,15,16] rfl,k+1,IntKind.i64.wrap ((k:Int)+1),_,_,by omega,?_,rfl,by rw[hM,z6p,y1y,List.append_assoc],rfl⟩
     rw[y7 _ (by omega) (by omega)];rfl
   ·have hk:¬ (k:Int)<(w:Int):=of_decide_eq_false h
    have hkw:k=w:=by omega
    subst hkw
    refine x9 ?_
    rw[← hM]
    exact⟨q9 [0] [0,1,9,10,11] rfl,trivial⟩
  ·refine q7 hT ?_
   refine⟨m - 1,by omega,_,q9 [0] [0,1,9,10,11] rfl,i+1,IntKind.i64.wrap ((i:Int)+1),_,by omega,?_,by rw[hL,htk,w9b,q1n,List.append_assoc],rfl⟩
   rw[y7 _ (by omega) (by omega)];rfl
 ·have hi:¬ (i:Int)<(l.length:Int):=of_decide_eq_false h
  have hil:i=l.length:=by omega
  subst hil
  rw[List.take_length]at hL
  refine x9 ?_
  refine q8 (q7 hT ?_)
  refine y5 ?_
  rw[← hL]
  exact z9 [0] ⟨rfl,rfl⟩ rfl
end Go.Proofs.YtinfbclgkghgaaaGreat.AL
namespace Go.Proofs.YtinfbclgkghgaaaGreat.AL
open Go Go.Proofs Go.Proofs.YtinfbclgkghgaaaGreat.AL.Crc
def Blk.head (b:Blk):z7:=[81,77,UInt8.ofNat b.kind.toNat,0]++z3f 4 [b.vol.toNat,b.addr.toNat,b.epoch.toNat,b.seq.toNat]++z3f 2 [b.body.length,0]
def Blk.all (b:Blk):z7:=b.head++b.body++List.replicate (228 - b.body.length) 0
def Blk.sld (b:Blk):z7 × Int:=match b.nums with
 |false=>([],1)
 |true=>match decide (b.body.length > 228) with
  |true=>([],2)
  |false=>(J9 b.all,0)
theorem x9q (b:Blk):b.head.length=24:=by unfold Blk.head;rw[List.length_append,List.length_append,z6q,z6q];rfl
theorem q9k (b:Blk)(h:b.body.length≤228):b.all.length=252:=by unfold Blk.all;rw[List.length_append,List.length_append,x9q,List.length_replicate];omega
theorem V3 {m:Nat}{s:St}(i b n:Nat){t:TypeId}{xs ys:List (List PV)}(e:xs=ys)(hn:n=xs.length)(hb:s.H[b]?=some (.row t 1 xs))(hi:Z9 s.fr.l i=some (.msl b 1 0 n)) :
 Wk m s ⟨⟨s.fr.n,(i,.p (.sl 1 ys)) :: s.fr.l⟩,s.H.set b .dead⟩:=by
 subst hn
 have:=y1t (m:=m) (s:=s) i b hb hi (by omega)
 rw[List.drop_zero,List.take_length]at this
 subst e
 exact this
set_option maxRecDepth 20000 in
theorem y8e (k v a e q:Nat)(body:z7)(hn:(Blk.mk k v a e q body).nums=true)(hb:body.length≤228) :
 AF Tryz.prog z5g [(Blk.mk k v a e q body).av] [] (v9 (.tup [bA (J9 (Blk.mk k v a e q body).all),i64 0]) []):=by
 have hbl:=w9 body
 have hall:=q9k (Blk.mk k v a e q body) hb
 refine v8 hT q8z rfl rfl q9a rfl ?_
 refine q8 (q7 hT ?_)
 refine Q1 (Q3 0 (Blk.mk k v a e q body).pv rfl rfl) ?_
 have wn:=q7v (Blk.mk k v a e q body)
 rw[hn]at wn
 refine z8 ⟨⟨46,[(1,.p (.box (Blk.mk k v a e q body).pv))]⟩,[]⟩ True (z3 (q8 (q7 hT ?_))) (fun _=>?_)
 ·refine y9 (w7 wn _ rfl rfl) ?_
  refine z2 ?_
  refine q8 (q7 hT ?_)
  refine z2 (y4 (fun h=>?_) (fun h=>?_))
  ·have h:=of_decide_eq_true (show decide (((bx body).length:Int) > 228)=true from h)
   omega
  ·exact z5 ⟨q9 [] [1] rfl,trivial⟩
 have l1:=y9x [[u8 81],[u8 77],[.raw (.int .u8 (IntKind.u8.wrap (k:Int)))],[u8 0]] 4 [v,a,e,q] (by simp) (by omega) (by simp)
 generalize hM:[[u8 81],[u8 77],[PV.raw (.int .u8 (IntKind.u8.wrap (k:Int)))],[u8 0]]++bx (z3f 4 [v,a,e,q])=M at l1
 have hMl:M.length=20:=by rw[← hM,List.length_append,w9,z6q];rfl
 have l2:=y9x M 2 [(bx body).length,0] (by omega) (by omega) (by simp)
 have hH:M++bx (z3f 2 [(bx body).length,0])=bx (Blk.mk k v a e q body).head:=by
  unfold Blk.head
  rw[hbl,q1n,q1n,← hM,q0p]
  rfl
 have hhl:=x9q (Blk.mk k v a e q body)
 refine z8 ⟨⟨46,[(1,.p (.box (Blk.mk k v a e q body).pv)),(4,.msl 0 1 0 M.length)]⟩,[.row z1 1 M]⟩ True (W4 (fun k=>Nat.beq 12 k) hT ?_) (fun _=>?_)
 ·refine⟨⟨rfl,rfl⟩,?_⟩
  refine y9 (u6 [0] l1 rfl rfl rfl) ?_
  exact⟨q9 [1] [1,4] rfl,trivial⟩
 refine z8 ⟨⟨46,[(1,.p (.box (Blk.mk k v a e q body).pv)),(4,.p (.sl 1 (bx (Blk.mk k v a e q body).head)))]⟩,[]⟩ True (W4 (fun k=>Nat.beq 4 k) hT ?_) (fun _=>?_)
 ·refine⟨⟨rfl,rfl⟩,?_⟩
  refine y9 (u6 [0] l2 rfl rfl rfl) ?_
  refine⟨Wk.trans (q9 [1] [1,4] rfl) (Wk.trans (V3 4 0 _ hH rfl rfl rfl) (q9 [] [1,4] rfl)),trivial⟩
 generalize hA:(Blk.mk k v a e q body).all=A at hall
 have hcopy:X7 (X7 (List.replicate 252 [u8 0]) 0 (bx (Blk.mk k v a e q body).head)) 24 (bx body)=bx A:=by
  rw[← hA]
  unfold Blk.all
  rw[q1n,q1n]
  have h1:(bx (Blk.mk k v a e q body).head).length=24:=by rw[w9,hhl]
  have e1:X7 (List.replicate 252 [u8 0]) 0 (bx (Blk.mk k v a e q body).head)=bx (Blk.mk k v a e q body).head++List.replicate 228 [u8 0]:=by
   unfold X7;rw[h1,List.take_zero,List.drop_replicate,List.nil_append]
  rw[e1]
  unfold X7
  rw[List.take_append_of_le_length (by omega),List.take_of_length_le (by omega),List.drop_append,List.drop_replicate,h1,hbl]
  rw[List.drop_eq_nil_of_le (by omega),List.nil_append]
  rw[show (228:Nat) - (24+body.length - 24)=228 - body.length by omega]
  congr 1
  unfold bx;rw[List.map_replicate]
 refine q8 (q7 hT ?_)
 refine⟨⟨rfl,by omega,by decide,by omega⟩,?_⟩
 refine z8 ⟨⟨46,[(1,.p (.box (Blk.mk k v a e q body).pv)),(5,.msl 0 1 0 252)]⟩,[.row z1 1 (X7 (List.replicate 252 [u8 0]) 0 (bx (Blk.mk k v a e q body).head))]⟩ True (q7 hT ?_) (fun _=>?_)
 ·have h1:(bx (Blk.mk k v a e q body).head).length=24:=by rw[w9,hhl]
  refine⟨⟨?_,?_⟩,?_⟩
  ·show 0+252≤(List.replicate 252 _).length
   rw[List.length_replicate];omega
  ·show (bx (Blk.mk k v a e q body).head).length≤252
   omega
  exact⟨q9 [0] [1,5] rfl,trivial⟩
 have hl0:(X7 (List.replicate 252 [u8 0]) 0 (bx (Blk.mk k v a e q body).head)).length=252:=by
  rw[X6 (by rw[List.length_replicate,w9,hhl];omega),List.length_replicate]
 generalize hS:X7 (List.replicate 252 [u8 0]) 0 (bx (Blk.mk k v a e q body).head)=S at hcopy hl0
 refine z8 ⟨⟨46,[(5,.p (.sl 1 (bx A)))]⟩,[]⟩ True ?_ (fun _=>?_)
 ·refine x6 [4] [] hT z6 (by rfl) ?_
  refine⟨⟨by omega,by decide,Int.le_refl _⟩,?_⟩
  refine⟨⟨?_,?_⟩,?_⟩
  ·show 0+24+(252 - 24)≤S.length
   omega
  ·show (bx body).length≤252 - 24
   omega
  have hSl:(X7 S 24 (bx body)).length=252:=by rw[X6 (by omega),hl0]
  exact⟨Wk.trans (V3 5 0 252 hcopy hSl.symm rfl rfl) (q9 [] [5] rfl),trivial⟩
 ·refine q8 (q7 hT ?_)
  refine y9 (w7 (v5d A (by omega)) _ rfl rfl) ?_
  refine y5 ?_
  exact z9 [] ⟨rfl,rfl⟩ rfl
end Go.Proofs.YtinfbclgkghgaaaGreat.AL
