/- A part of the proof. -/
import Derived.Test.YtinfbclgkghgaaaGreatSnapH
/- The document's layer 07: a sector is made. -/
namespace Go.Proofs.YtinfbclgkghgaaaGreat.AL
open Go Go.Proofs Go.Proofs.YtinfbclgkghgaaaGreat.AL.Crc
theorem x1m (w n:Nat)(l:List Nat):z3z w (n :: l)=leB w n++z3z w l:=rfl
theorem x9y (w:Nat):z3z w []=[]:=rfl
set_option maxRecDepth 20000 in
theorem y9w (k v a e q:Nat)(body:y7)(hn:(Blk.mk k v a e q body).nums=true)(hb:body.length≤228)(hv:v≤4294967295)(ha:a≤4294967295)(he:e≤4294967295)(hq:q≤4294967295) :
 AF Tryz.prog z6i [(Blk.mk k v a e q body).av] [] (Q0 (.tup [bA (q0i (Blk.mk k v a e q body).all),i64 0]) []):=by
 have hbl:=u6 body
 have hall:=z3i (Blk.mk k v a e q body) hb
 refine u9 hT q9z rfl rfl z0a rfl ?_
 refine q8 (q7 hT ?_)
 refine Q8 (Q6 0 (Blk.mk k v a e q body).pv rfl rfl) ?_
 have wn:=q8m (Blk.mk k v a e q body)
 rw[hn]at wn
 refine q8 (q7 hT ?_)
 refine x8 (u5 wn _ rfl rfl) ?_
 refine q8 (q8 (q7 hT ?_))
 refine z6 ?_
 refine z9 ?_
 refine y8 ⟨⟨59,[(1,.p (.box (Blk.mk k v a e q body).pv))]⟩,[]⟩ True (q8 (q7 hT ?_)) (fun _=>?_)
 ·refine z6 (x7 (fun h=>?_) (fun h=>?_))
  ·have h:=of_decide_eq_true (show decide (((bx body).length:Int) > 228)=true from h)
   omega
  ·exact z9 ⟨q9 [] [1] rfl,trivial⟩
 have key:∀ (L:y7) (r:y7),L.length≤400→r.length≤400→((bx L).length+(bx r).length)*1≤140737488355328∧(bx L).length+(bx r).length≤140737488355328:=fun L r h1 h2=>by
  rw[u6,u6];omega
 generalize hL0:([81,77,UInt8.ofNat k,0]:y7)=L0
 have l0:L0.length=4:=by rw[← hL0];rfl
 have b0:[[u8 81],[u8 77],[PV.raw (.int .u8 (IntKind.u8.wrap (k:Int)))],[u8 0]]=bx L0:=by rw[← hL0,q4d];rfl
 have w1:=q7c v 4 (by omega) (by omega)
 have w2:=q7c a 4 (by omega) (by omega)
 have w3:=q7c e 4 (by omega) (by omega)
 have w4:=q7c q 4 (by omega) (by omega)
 have w5:AF Tryz.prog z0b [i64 (bx body).length,i64 2] [] (Q0 (bA (leB 2 body.length)) []):=by rw[hbl];exact q7c body.length 2 (by omega) (by omega)
 have hhead:(Blk.mk k v a e q body).head=L0++leB 4 v++leB 4 a++leB 4 e++leB 4 q++leB 2 body.length++[0,0]:=by
  unfold Blk.head
  simp only[x1m,x9y,Int.toNat_natCast]
  rw[← hL0]
  simp only[List.append_assoc,List.append_nil]
  rfl
 have hA:(Blk.mk k v a e q body).all=L0++leB 4 v++leB 4 a++leB 4 e++leB 4 q++leB 2 body.length++[0,0]++body++List.replicate (228 - body.length) 0:=by
  unfold Blk.all
  rw[hhead]
 have n1:=J0 4 v
 have n2:=J0 4 a
 have n3:=J0 4 e
 have n4:=J0 4 q
 have n5:=J0 2 body.length
 generalize leB 4 v=c1 at w1 hA n1
 generalize leB 4 a=c2 at w2 hA n2
 generalize leB 4 e=c3 at w3 hA n3
 generalize leB 4 q=c4 at w4 hA n4
 generalize leB 2 body.length=c5 at w5 hA n5
 generalize hAA:(Blk.mk k v a e q body).all=A at hA hall
 clear hhead hn wn hL0
 refine y8 ⟨⟨59,[(1,.p (.box (Blk.mk k v a e q body).pv)),(5,.msl 0 1 0 (bx L0).length)]⟩,[.row z4 1 (bx L0)]⟩ True (q7 hT ?_) (fun _=>?_)
 ·rw[← b0]
  exact⟨q9 [0] [1,5] rfl,trivial⟩
 refine y8 ⟨⟨59,[(1,.p (.box (Blk.mk k v a e q body).pv)),(5,.msl 0 1 0 (bx (L0++c1)).length)]⟩,[.row z4 1 (bx (L0++c1))]⟩ True (q7 hT ?_) (fun _=>?_)
 ·refine x8 (u5 w1 _ rfl rfl) ?_
  refine⟨rfl,key L0 c1 (by omega) (by omega),?_⟩
  rw[q2p]
  exact⟨q9 [1] [1,5] rfl,trivial⟩
 generalize h1:L0++c1=L1 at hA
 have l1:L1.length=8:=by rw[← h1,List.length_append];omega
 refine y8 ⟨⟨59,[(1,.p (.box (Blk.mk k v a e q body).pv)),(5,.msl 0 1 0 (bx (L1++c2)).length)]⟩,[.row z4 1 (bx (L1++c2))]⟩ True (q7 hT ?_) (fun _=>?_)
 ·refine x8 (u5 w2 _ rfl rfl) ?_
  refine⟨rfl,key L1 c2 (by omega) (by omega),?_⟩
  rw[q2p]
  exact⟨q9 [1] [1,5] rfl,trivial⟩
 generalize h2:L1++c2=L2 at hA
 have l2:L2.length=12:=by rw[← h2,List.length_append];omega
 refine y8 ⟨⟨59,[(1,.p (.box (Blk.mk k v a e q body).pv)),(5,.msl 0 1 0 (bx (L2++c3)).length)]⟩,[.row z4 1 (bx (L2++c3))]⟩ True (q7 hT ?_) (fun _=>?_)
 ·refine x8 (u5 w3 _ rfl rfl) ?_
  refine⟨rfl,key L2 c3 (by omega) (by omega),?_⟩
  rw[q2p]
  exact⟨q9 [1] [1,5] rfl,trivial⟩
 generalize h3:L2++c3=L3 at hA
 have l3:L3.length=16:=by rw[← h3,List.length_append];omega
 refine y8 ⟨⟨59,[(1,.p (.box (Blk.mk k v a e q body).pv)),(5,.msl 0 1 0 (bx (L3++c4)).length)]⟩,[.row z4 1 (bx (L3++c4))]⟩ True (q7 hT ?_) (fun _=>?_)
 ·refine x8 (u5 w4 _ rfl rfl) ?_
  refine⟨rfl,key L3 c4 (by omega) (by omega),?_⟩
  rw[q2p]
  exact⟨q9 [1] [1,5] rfl,trivial⟩
 generalize h4:L3++c4=L4 at hA
 have l4:L4.length=20:=by rw[← h4,List.length_append];omega
 refine y8 ⟨⟨59,[(1,.p (.box (Blk.mk k v a e q body).pv)),(5,.msl 0 1 0 (bx (L4++c5)).length)]⟩,[.row z4 1 (bx (L4++c5))]⟩ True (q7 hT ?_) (fun _=>?_)
 ·refine x8 (u5 w5 _ rfl rfl) ?_
  refine⟨rfl,key L4 c5 (by omega) (by omega),?_⟩
  rw[q2p]
  exact⟨q9 [1] [1,5] rfl,trivial⟩
 generalize h5:L4++c5=L5 at hA
 have l5:L5.length=22:=by rw[← h5,List.length_append];omega
 refine y8 ⟨⟨59,[(1,.p (.box (Blk.mk k v a e q body).pv)),(5,.msl 0 1 0 (bx (L5++[0,0])).length)]⟩,[.row z4 1 (bx (L5++[0,0]))]⟩ True (X6 (fun k=>Nat.beq 1 k) hT ?_) (fun _=>?_)
 ·refine⟨⟨rfl,rfl⟩,?_⟩
  refine⟨rfl,key L5 [0,0] (by omega) (by decide),?_⟩
  rw[q2p]
  exact⟨q9 [1] [1,5] rfl,trivial⟩
 generalize h6:L5++[0,0]=L6 at hA
 have l6:L6.length=24:=by rw[← h6,List.length_append];simp;omega
 refine y8 ⟨⟨59,[(5,.msl 0 1 0 (bx (L6++body)).length)]⟩,[.row z4 1 (bx (L6++body))]⟩ True (q7 hT ?_) (fun _=>?_)
 ·refine⟨rfl,key L6 body (by omega) (by omega),?_⟩
  rw[q2p]
  exact⟨q9 [1] [5] rfl,trivial⟩
 generalize h7:L6++body=L7 at hA
 have l7:L7.length=24+body.length:=by rw[← h7,List.length_append];omega
 have l7':L7.length≤252:=by omega
 rw[show 228 - body.length=252 - L7.length by omega]at hA
 clear h1 h2 h3 h4 h5 h6 h7
 refine y8 ⟨⟨59,[(5,.p (.sl 1 (bx A)))]⟩,[]⟩ True (z7 ?_) (fun _=>?_)
 ·refine w7 (fun n s=>∃ L:y7,n+L.length=252∧A=L++List.replicate (252 - L.length) 0∧s=⟨⟨59,[(5,.msl 0 1 0 (bx L).length)]⟩,[.row z4 1 (bx L)]⟩) (252 - L7.length) ⟨⟨59,_⟩,[_]⟩ (q9 [0] [5] rfl) ⟨L7,by omega,hA,rfl⟩ ?_
  rintro n s ⟨L,hn,hAL,rfl⟩
  have hbL:=u6 L
  refine q8 (q8 (q7 hT ?_))
  refine z6 (x7 (fun h=>?_) (fun h=>?_))
  ·have h:=of_decide_eq_true (show decide (((bx L).length:Int)<252)=true from h)
   refine z9 ?_
   refine z7 (X6 (fun k=>Nat.beq 1 k) hT ?_)
   refine⟨⟨rfl,rfl⟩,?_⟩
   refine⟨rfl,key L [0] (by omega) (by decide),?_⟩
   refine⟨n - 1,by omega,_,q9 [1] [5] rfl,L++[0],by rw[List.length_append];simp;omega,?_,by rw[q2p];rfl⟩
   rw[hAL,List.append_assoc,List.length_append,show ([0]:y7).length=1 from rfl,show 252 - L.length=252 - (L.length+1)+1 by omega,List.replicate_succ];rfl
  ·have h:=of_decide_eq_false (show decide (((bx L).length:Int)<252)=false from h)
   have h252:L.length=252:=by omega
   rw[h252,Nat.sub_self,List.replicate_zero,List.append_nil]at hAL
   refine u0 ?_
   exact⟨Wk.trans (q0s 5 0 _ (by rw[hAL]) rfl rfl rfl) (q9 [] [5] rfl),trivial⟩
 refine q8 (q7 hT ?_)
 refine x8 (u5 (w3y A (by omega)) _ rfl rfl) ?_
 refine x6 ?_
 exact y9 [] ⟨rfl,rfl⟩ rfl
theorem w4a (b:Blk):AF Tryz.prog z6i [b.av] [] (Q0 (.tup [bA b.sld.1,i64 b.sld.2]) []):=by
 cases hn:b.nums with
 |true=>
  cases hl:decide (b.body.length > 228) with
  |false=>
   have hl:=of_decide_eq_false hl
   have e:b.sld=(q0i b.all,0):=by unfold Blk.sld;rw[hn,decide_eq_false hl]
   obtain⟨k,v,a,e',q,hb,_,_,hv,ha,he,hq⟩:=y6v hn
   rw[e]
   rw[hb]at hn ⊢
   exact y9w k v a e' q b.body hn (by omega) hv ha he hq
  |true=>
   have e:b.sld=([],2):=by unfold Blk.sld;rw[hn,hl]
   have hbl:=u6 b.body
   have hl:=of_decide_eq_true hl
   have wn:=q8m b
   rw[hn]at wn
   rw[e]
   refine u9 hT q9z rfl rfl z0a rfl ?_
   refine q8 (q7 hT ?_)
   refine Q8 (Q6 0 b.pv rfl rfl) ?_
   refine q8 (q7 hT ?_)
   refine x8 (u5 wn _ rfl rfl) ?_
   refine q8 (q8 (q7 hT ?_))
   refine z6 ?_
   refine z9 ?_
   refine q8 (q8 (q7 hT ?_))
   refine z6 (x7 (fun h=>?_) (fun h=>?_))
   ·refine q8 (q7 hT ?_)
    refine Q8 (q3y 2 1 rfl) ?_
    refine x6 ?_
    exact y9 [] ⟨rfl,rfl⟩ rfl
   ·have h:=of_decide_eq_false (show decide (((bx b.body).length:Int) > 228)=false from h)
    omega
 |false=>
  have e:b.sld=([],1):=by unfold Blk.sld;rw[hn]
  have wn:=q8m b
  rw[hn]at wn
  rw[e]
  refine u9 hT q9z rfl rfl z0a rfl ?_
  refine q8 (q7 hT ?_)
  refine Q8 (Q6 0 b.pv rfl rfl) ?_
  refine q8 (q7 hT ?_)
  refine x8 (u5 wn _ rfl rfl) ?_
  refine q8 (q8 (q7 hT ?_))
  refine z6 ?_
  refine q8 (q7 hT ?_)
  refine Q8 (q3y 2 1 rfl) ?_
  refine x6 ?_
  exact y9 [] ⟨rfl,rfl⟩ rfl
end Go.Proofs.YtinfbclgkghgaaaGreat.AL
/- The document's layer 07: a sector is opened. -/
namespace Go.Proofs.YtinfbclgkghgaaaGreat.AL
open Go Go.Proofs Go.Proofs.YtinfbclgkghgaaaGreat.AL.Crc
theorem z0j (l:y7):q0k (q0i l)=true:=by
 have h:=q9c l
 unfold q0k
 rw[decide_eq_true (show 4≤(q0i l).length by omega)]
 rw[show (q0i l).length - 4=l.length by omega]
 show ((q0i l).drop l.length==leB 4 (sum ((q0i l).take l.length)).toNat)=true
 unfold q0i
 rw[List.drop_left,List.take_left]
 simp
end Go.Proofs.YtinfbclgkghgaaaGreat.AL
namespace Go.Proofs.YtinfbclgkghgaaaGreat.AL
open Go Go.Proofs
def inR (n lo hi:Int):Bool:=decide (n≥lo)&&decide (n≤hi)
theorem x5d (n lo hi:Int):AF Tryz.prog v3t [i64 n,i64 lo,i64 hi] [] (Q0 (bl (inR n lo hi)) []):=by
 refine u9 hT v3u rfl rfl v3v rfl ?_
 refine q8 (q7 hT ?_)
 unfold inR
 refine q8 (q7 hT ?_)
 refine x7 (fun h=>?_) (fun h=>?_)
 ·rw[show decide (n≥lo)=true from h]
  refine x6 ?_
  exact y9 [] ⟨rfl,rfl⟩ rfl
 ·rw[show decide (n≥lo)=false from h]
  refine x6 ?_
  exact y9 [] ⟨rfl,rfl⟩ rfl
structure GeoV where
 w:Int
 s:Int
 k:Int
 m:Int
 deriving DecidableEq
abbrev GeoV.pv (g:GeoV):List PV:=[.raw (.int .i64 g.w),.raw (.int .i64 g.s),.raw (.int .i64 g.k),.raw (.int .i64 g.m)]
abbrev GeoV.av (g:GeoV):AV:=.agg [i64 g.w,i64 g.s,i64 g.k,i64 g.m]
def GeoV.fits (g:GeoV):Bool:=inR g.w 8 512&&inR g.s 1 32&&inR g.k 1 16&&inR g.m 1 8
def GeoV.may (g:GeoV):Bool:=g.fits&&decide (4+2*g.w+2*g.s*(g.k+g.m)≤4096)
def GeoV.room (g:GeoV):Int:=match g.may with|true=>g.s*g.k*228|false=>0
theorem V0 {g:GeoV}(h:g.fits=true):8≤g.w∧g.w≤512∧1≤g.s∧g.s≤32∧1≤g.k∧g.k≤16∧1≤g.m∧g.m≤8:=by
 unfold GeoV.fits inR at h
 simp only[Bool.and_eq_true,decide_eq_true_eq]at h
 omega
theorem q9e {g:GeoV}(h:g.fits=true):0≤g.s*(g.k+g.m)∧g.s*(g.k+g.m)≤768∧0≤g.s*g.k∧g.s*g.k≤512∧2*g.s*(g.k+g.m)=2*(g.s*(g.k+g.m)):=by
 obtain⟨h1,h2,h3,h4,h5,h6,h7,h8⟩:=V0 h
 have a:=Int.mul_le_mul (show g.s≤32 from h4) (show g.k+g.m≤24 by omega) (by omega) (by omega)
 have b:=Int.mul_le_mul (show g.s≤32 from h4) (show g.k≤16 by omega) (by omega) (by omega)
 exact⟨Int.mul_nonneg (by omega) (by omega),by omega,Int.mul_nonneg (by omega) (by omega),by omega,Int.mul_assoc _ _ _⟩
theorem x9z (g:GeoV)(h:g.fits=true):AF Tryz.prog y9g [g.av] [] (Q0 (i64 (4+2*g.w+2*g.s*(g.k+g.m))) []):=by
 obtain⟨h1,h2,h3,h4,h5,h6,h7,h8⟩:=V0 h
 obtain⟨m1,m2,m3,m4,m5⟩:=q9e h
 have wl:AF Tryz.prog z6w [g.av] [] (Q0 (i64 (4+2*g.w)) []):=by
  refine u9 hT z6x rfl rfl z6y rfl ?_
  refine q8 (q7 hT ?_)
  refine Q8 (Q6 0 g.pv rfl rfl) ?_
  refine q8 (q7 hT ?_)
  refine x6 ?_
  rw[show i64 (4+2*g.w)=i64 (IntKind.i64.wrap (4+IntKind.i64.wrap (2*g.w))) by rw[x9 (2*g.w) (by omega) (by omega),x9 _ (by omega) (by omega)]]
  exact y9 [] ⟨rfl,rfl⟩ rfl
 have ww:AF Tryz.prog y4y [g.av] [] (Q0 (i64 (g.k+g.m)) []):=by
  refine u9 hT y4z rfl rfl y5a rfl ?_
  refine q8 (q7 hT ?_)
  refine Q8 (Q6 0 g.pv rfl rfl) ?_
  refine q8 (q7 hT ?_)
  refine x6 ?_
  rw[show i64 (g.k+g.m)=i64 (IntKind.i64.wrap (g.k+g.m)) by rw[x9 _ (by omega) (by omega)]]
  exact y9 [] ⟨rfl,rfl⟩ rfl
 refine u9 hT y9h rfl rfl y9i rfl ?_
 refine q8 (q7 hT ?_)
 refine Q8 (Q6 0 g.pv rfl rfl) ?_
 refine q8 ?_
 refine w9 [] [] hT z8 (by rfl) ?_
 refine⟨_,u5 wl _ rfl rfl,?_⟩
 refine⟨_,u5 ww _ rfl rfl,?_⟩
 refine x6 ?_
 rw[show i64 (4+2*g.w+2*g.s*(g.k+g.m))=i64 (IntKind.i64.wrap (4+2*g.w+IntKind.i64.wrap (IntKind.i64.wrap (2*g.s)*(g.k+g.m)))) by
  rw[x9 (2*g.s) (by omega) (by omega),x9 (2*g.s*(g.k+g.m)) (by omega) (by omega),x9 _ (by omega) (by omega)]]
 exact y9 [] ⟨rfl,rfl⟩ rfl
theorem x5e (g:GeoV):AF Tryz.prog w7x [g.av] [] (Q0 (bl g.may) []):=by
 refine u9 hT w7y rfl rfl w7z rfl ?_
 refine q8 (q7 hT ?_)
 refine Q8 (Q6 0 g.pv rfl rfl) ?_
 refine y8 ⟨⟨28,[(1,.p (.box g.pv)),(3,bl g.fits)]⟩,[]⟩ True (q7 hT ?_) (fun _=>?_)
 ·unfold GeoV.fits
  refine x8 (u5 (x5d g.w 8 512) _ rfl rfl) ?_
  refine x7 (fun h=>?_) (fun h=>?_)
  ·rw[show inR g.w 8 512=true from h]
   refine x8 (u5 (x5d g.s 1 32) _ rfl rfl) ?_
   refine x7 (fun h=>?_) (fun h=>?_)
   ·rw[show inR g.s 1 32=true from h]
    refine x8 (u5 (x5d g.k 1 16) _ rfl rfl) ?_
    refine x7 (fun h=>?_) (fun h=>?_)
    ·rw[show inR g.k 1 16=true from h]
     refine x8 (u5 (x5d g.m 1 8) _ rfl rfl) ?_
     exact⟨q9 [] [1,3] rfl,trivial⟩
    ·rw[show inR g.k 1 16=false from h]
     exact⟨q9 [] [1,3] rfl,trivial⟩
   ·rw[show inR g.s 1 32=false from h]
    exact⟨q9 [] [1,3] rfl,trivial⟩
  ·rw[show inR g.w 8 512=false from h]
   exact⟨q9 [] [1,3] rfl,trivial⟩
 unfold GeoV.may
 refine q8 (q7 hT ?_)
 refine x7 (fun h=>?_) (fun h=>?_)
 ·have h:g.fits=true:=h
  rw[h]
  refine x8 (u5 (x9z g h) _ rfl rfl) ?_
  refine x6 ?_
  exact y9 [] ⟨rfl,rfl⟩ rfl
 ·rw[show g.fits=false from h]
  refine x6 ?_
  exact y9 [] ⟨rfl,rfl⟩ rfl
theorem w9f (g:GeoV)(h:g.fits=true):AF Tryz.prog z6z [g.av] [] (Q0 (i64 (g.s*g.k*228)) []):=by
 obtain⟨m1,m2,m3,m4,m5⟩:=q9e h
 refine u9 hT x4m rfl rfl x4n rfl ?_
 refine q8 (q7 hT ?_)
 refine Q8 (Q6 0 g.pv rfl rfl) ?_
 refine q8 (q7 hT ?_)
 refine x6 ?_
 rw[show i64 (g.s*g.k*228)=i64 (IntKind.i64.wrap (IntKind.i64.wrap (g.s*g.k)*228)) by
  rw[x9 (g.s*g.k) (by omega) (by omega),x9 _ (by omega) (by omega)]]
 exact y9 [] ⟨rfl,rfl⟩ rfl
theorem z7s (g:GeoV):AF Tryz.prog w2s [g.av] [] (Q0 (i64 g.room) []):=by
 have wo:AF Tryz.prog x8d [g.av,.clo (.func z6z) []] [] (Q0 (i64 g.room) []):=by
  refine u9 hT x8e rfl rfl x8f rfl ?_
  refine q8 (q7 hT ?_)
  refine Q8 (Q6 0 g.pv rfl rfl) ?_
  unfold GeoV.room
  refine q8 (q8 (q7 hT ?_))
  refine x8 (u5 (x5e g) _ rfl rfl) ?_
  refine z6 (x7 (fun h=>?_) (fun h=>?_))
  ·have h:(!g.may)=true:=h
   rw[Bool.not_eq_true']at h
   rw[h]
   refine q8 (q7 hT ?_)
   refine x6 ?_
   exact y9 [] ⟨rfl,rfl⟩ rfl
  ·have h:(!g.may)=false:=h
   rw[Bool.not_eq_false']at h
   rw[h]
   have hf:g.fits=true:=by unfold GeoV.may at h;rw[Bool.and_eq_true]at h;exact h.1
   refine z9 ?_
   refine q8 (q7 hT ?_)
   refine x8 (u5 (w9f g hf) _ rfl rfl) ?_
   refine x6 ?_
   exact y9 [] ⟨rfl,rfl⟩ rfl
 refine u9 hT w2t rfl rfl w2u rfl ?_
 refine q8 (q7 hT ?_)
 refine Q8 (Q6 0 g.pv rfl rfl) ?_
 refine q8 (q7 hT ?_)
 refine x8 (u5 wo _ rfl rfl) ?_
 refine x6 ?_
 exact y9 [] ⟨rfl,rfl⟩ rfl
end Go.Proofs.YtinfbclgkghgaaaGreat.AL
namespace Go.Proofs.YtinfbclgkghgaaaGreat.AL
open Go Go.Proofs
theorem w0a (g:GeoV):(g.fits=true)=(8≤g.w∧g.w≤512∧1≤g.s∧g.s≤32∧1≤g.k∧g.k≤16∧1≤g.m∧g.m≤8):=by
 refine propext ⟨V0,fun h=>?_⟩
 unfold GeoV.fits inR
 simp only[Bool.and_eq_true,decide_eq_true_eq]
 omega
set_option maxRecDepth 20000 in
theorem q6m (g:GeoV):AF Tryz.prog x7n [g.av] [] (Q0 (bl g.may) []):=by
 have no:¬ (8≤g.w∧g.w≤512∧1≤g.s∧g.s≤32∧1≤g.k∧g.k≤16∧1≤g.m∧g.m≤8)→g.may=false:=fun h=>by
  have h2:g.fits=false:=by rw[← Bool.not_eq_true,w0a];exact h
  unfold GeoV.may;rw[h2];rfl
 refine AF.mono (R:=fun r H'=>∃ b,b=g.may∧r=bl b∧H'=[]) ?_ (by rintro r H' ⟨b,rfl,rfl,rfl⟩;exact⟨rfl,rfl⟩)
 refine u9 hT x7p rfl rfl x7q rfl ?_
 refine q8 (q7 hT ?_)
 refine Q8 (Q6 0 g.pv rfl rfl) ?_
 refine y8 ⟨⟨56,[(1,.p (.box g.pv))]⟩,[]⟩ (g.fits=true) (q8 (q7 hT ?_)) ?_
 ·skip
  refine x7 (fun h0=>?_) (fun h0=>?_)
  ·skip
   have h0:=of_decide_eq_true (show decide (g.w<8)=true from h0)
   refine z6 ?_
   refine q8 (q7 hT ?_)
   refine x6 ?_
   exact y9 [] ⟨_,(no (by omega)).symm,rfl,rfl⟩ rfl
  ·have h0:=of_decide_eq_false (show decide (g.w<8)=false from h0)
   refine x7 (fun h1=>?_) (fun h1=>?_)
   ·skip
    have h1:=of_decide_eq_true (show decide (g.w > 512)=true from h1)
    refine z6 ?_
    refine q8 (q7 hT ?_)
    refine x6 ?_
    exact y9 [] ⟨_,(no (by omega)).symm,rfl,rfl⟩ rfl
   ·have h1:=of_decide_eq_false (show decide (g.w > 512)=false from h1)
    refine x7 (fun h2=>?_) (fun h2=>?_)
    ·skip
     have h2:=of_decide_eq_true (show decide (g.s<1)=true from h2)
     refine z6 ?_
     refine q8 (q7 hT ?_)
     refine x6 ?_
     exact y9 [] ⟨_,(no (by omega)).symm,rfl,rfl⟩ rfl
    ·have h2:=of_decide_eq_false (show decide (g.s<1)=false from h2)
     refine x7 (fun h3=>?_) (fun h3=>?_)
     ·skip
      have h3:=of_decide_eq_true (show decide (g.s > 32)=true from h3)
      refine z6 ?_
      refine q8 (q7 hT ?_)
      refine x6 ?_
      exact y9 [] ⟨_,(no (by omega)).symm,rfl,rfl⟩ rfl
     ·have h3:=of_decide_eq_false (show decide (g.s > 32)=false from h3)
      refine x7 (fun h4=>?_) (fun h4=>?_)
      ·skip
       have h4:=of_decide_eq_true (show decide (g.k<1)=true from h4)
       refine z6 ?_
       refine q8 (q7 hT ?_)
       refine x6 ?_
       exact y9 [] ⟨_,(no (by omega)).symm,rfl,rfl⟩ rfl
      ·have h4:=of_decide_eq_false (show decide (g.k<1)=false from h4)
       refine x7 (fun h5=>?_) (fun h5=>?_)
       ·skip
        have h5:=of_decide_eq_true (show decide (g.k > 16)=true from h5)
        refine z6 ?_
        refine q8 (q7 hT ?_)
        refine x6 ?_
        exact y9 [] ⟨_,(no (by omega)).symm,rfl,rfl⟩ rfl
       ·have h5:=of_decide_eq_false (show decide (g.k > 16)=false from h5)
        refine x7 (fun h6=>?_) (fun h6=>?_)
        ·skip
         have h6:=of_decide_eq_true (show decide (g.m<1)=true from h6)
         refine z6 ?_
         refine q8 (q7 hT ?_)
         refine x6 ?_
         exact y9 [] ⟨_,(no (by omega)).symm,rfl,rfl⟩ rfl
        ·have h6:=of_decide_eq_false (show decide (g.m<1)=false from h6)
         refine z6 (x7 (fun h7=>?_) (fun h7=>?_))
         ·skip
          have h7:=of_decide_eq_true (show decide (g.m > 8)=true from h7)
          skip
          refine q8 (q7 hT ?_)
          refine x6 ?_
          exact y9 [] ⟨_,(no (by omega)).symm,rfl,rfl⟩ rfl
         ·have h7:=of_decide_eq_false (show decide (g.m > 8)=false from h7)
          exact z9 ⟨q9 [] [1] rfl,by rw[w0a];omega⟩
 intro hf
 obtain⟨h1,h2,h3,h4,h5,h6,h7,h8⟩:=V0 hf
 obtain⟨m1,m2,m3,m4,m5⟩:=q9e hf
 refine q8 (q7 hT ?_)
 refine x6 ?_
 refine y9 [] ⟨_,?_,rfl,rfl⟩ rfl
 show decide (IntKind.i64.wrap (IntKind.i64.wrap (4+IntKind.i64.wrap (2*g.w))+IntKind.i64.wrap (IntKind.i64.wrap (2*g.s)*IntKind.i64.wrap (g.k+g.m)))≤4096)=_
 unfold GeoV.may
 rw[hf,Bool.true_and,x9 (2*g.w) (by omega) (by omega),x9 (4+2*g.w) (by omega) (by omega),x9 (2*g.s) (by omega) (by omega),x9 (g.k+g.m) (by omega) (by omega),x9 (2*g.s*(g.k+g.m)) (by omega) (by omega),x9 _ (by omega) (by omega)]
end Go.Proofs.YtinfbclgkghgaaaGreat.AL
namespace Go.Proofs.YtinfbclgkghgaaaGreat.AL
open Go Go.Proofs
def v5h (s:y7):y7:=y2z s.length++s
end Go.Proofs.YtinfbclgkghgaaaGreat.AL
namespace Go.Proofs.YtinfbclgkghgaaaGreat.AL
open Go Go.Proofs Go.Proofs.YtinfbclgkghgaaaGreat.AL.Crc
theorem v5i (k n:Nat):leB (k+1) n=UInt8.ofNat n :: leB k (n / 256):=by
 unfold leB
 rw[List.range_succ_eq_map,List.map_cons,List.map_map]
 congr 1
 ·rw[Nat.pow_zero,Nat.div_one]
 ·apply List.map_congr_left
  intro j _
  show UInt8.ofNat (n / 256 ^ (j+1))=UInt8.ofNat (n / 256 / 256 ^ j)
  rw[Nat.pow_succ,Nat.mul_comm,Nat.div_div_eq_div_mul]
theorem q6n:∀ k n,z0y (leB k n)=n % 256 ^ k
 |0,n=>by show 0=n % 1;omega
 |k+1,n=>by
  rw[v5i,z0y,q6n k,UInt8.toNat_ofNat',show (256:Nat) ^ (k+1)=256*256 ^ k by rw[Nat.pow_succ,Nat.mul_comm],Nat.mod_mul,Nat.mul_comm]
  omega
theorem z7t {s p c r:y7}{a w n:Nat}(hs:s=p++(c++r))(hp:p.length=a)(hc:c.length=w)(hl:z0y c=n):q2i s a w=n:=by
 subst hs;subst hp;subst hc
 unfold q2i
 rw[List.drop_left,List.take_left];exact hl
theorem y0c {b:Blk}(hn:b.nums=true)(hb:b.body.length≤228):U6 (q0i b.all)=(b,0):=by
 obtain⟨k,v,a,e,q,hbk,k1,k4,hv,ha,he,hq⟩:=y6v hn
 generalize hbody:b.body=body at hbk hb
 have hall:=z3i b (by rw[hbody];exact hb)
 have hs:q0i b.all=[81,77,UInt8.ofNat k,0]++(leB 4 v++(leB 4 a++(leB 4 e++(leB 4 q++(leB 2 body.length++(leB 2 0++(body++(List.replicate (228 - body.length) 0++leB 4 (sum b.all).toNat)))))))):=by
  show b.all++leB 4 (sum b.all).toNat=_
  have:b.all=[81,77,UInt8.ofNat k,0]++(leB 4 v++(leB 4 a++(leB 4 e++(leB 4 q++(leB 2 body.length++(leB 2 0++(body++List.replicate (228 - body.length) 0))))))):=by
   unfold Blk.all Blk.head
   rw[hbk]
   simp only[x1m,x9y,Int.toNat_natCast,List.append_assoc,List.append_nil]
  generalize leB 4 (sum b.all).toNat=z
  rw[this]
  simp only[List.append_assoc]
 have hlen:=q9c b.all
 have hw:=z0j b.all
 have hseal:b.sld=(q0i b.all,0):=by unfold Blk.sld;rw[hn,decide_eq_false (by rw[hbody];omega)]
 generalize q0i b.all=s at hs hlen hw hseal
 have l4:=fun n=>J0 4 n
 have n20:q2i s 20 2=body.length:=z7t (p:=[81,77,UInt8.ofNat k,0]++(leB 4 v++(leB 4 a++(leB 4 e++leB 4 q)))) (c:=leB 2 body.length) (by rw[hs];simp only[List.append_assoc];rfl) (by simp only[List.length_append,l4];rfl) (J0 _ _) (by rw[q6n];omega)
 have n4:q2i s 4 4=v:=z7t (p:=[81,77,UInt8.ofNat k,0]) (c:=leB 4 v) hs rfl (J0 _ _) (by rw[q6n];omega)
 have n8:q2i s 8 4=a:=z7t (p:=[81,77,UInt8.ofNat k,0]++leB 4 v) (c:=leB 4 a) (by rw[hs];simp only[List.append_assoc];rfl) (by simp only[List.length_append,l4];rfl) (J0 _ _) (by rw[q6n];omega)
 have n12:q2i s 12 4=e:=z7t (p:=[81,77,UInt8.ofNat k,0]++(leB 4 v++leB 4 a)) (c:=leB 4 e) (by rw[hs];simp only[List.append_assoc];rfl) (by simp only[List.length_append,l4];rfl) (J0 _ _) (by rw[q6n];omega)
 have n16:q2i s 16 4=q:=z7t (p:=[81,77,UInt8.ofNat k,0]++(leB 4 v++(leB 4 a++leB 4 e))) (c:=leB 4 q) (by rw[hs];simp only[List.append_assoc];rfl) (by simp only[List.length_append,l4];rfl) (J0 _ _) (by rw[q6n];omega)
 have hd:(s.drop 24).take body.length=body:=by
  have e1:s=([81,77,UInt8.ofNat k,0]++(leB 4 v++(leB 4 a++(leB 4 e++(leB 4 q++(leB 2 body.length++leB 2 0))))))++(body++(List.replicate (228 - body.length) 0++leB 4 (sum b.all).toNat)):=by rw[hs];simp only[List.append_assoc]
  have e2:([81,77,UInt8.ofNat k,0]++(leB 4 v++(leB 4 a++(leB 4 e++(leB 4 q++(leB 2 body.length++leB 2 0)))))).length=24:=by simp only[List.length_append,l4,J0];rfl
  rw[e1,← e2,List.drop_left,List.take_left]
 have hk:s.getD 2 0=UInt8.ofNat k:=by rw[hs];rfl
 have hblk:z7r s=b:=by
  unfold z7r
  rw[n20,n4,n8,n12,n16,hd,hk,hbk,UInt8.toNat_ofNat']
  congr 1
  omega
 unfold U6
 rw[hw,n20,hblk,hseal,decide_eq_true (show s.length=256 by omega),decide_eq_false (show ¬ (body.length:Int) > 228 by omega)]
 show (match (0:Int) != 0||!(s==s) with|true=>(Blk.zero,7)|false=>(b,0):Blk × Int)=_
 rw[show (s==s)=true from beq_self_eq_true s]
 rfl
end Go.Proofs.YtinfbclgkghgaaaGreat.AL
namespace Go.Proofs.YtinfbclgkghgaaaGreat.AL
open Go Go.Proofs
structure Pc where
 seq:Int
 epoch:Int
 frm:Int
 chain:Int
 index:Int
 of_:Int
 b:y7
 deriving DecidableEq
abbrev Pc.pv (p:Pc):List PV:=[.raw (.int .i64 p.seq),.raw (.int .i64 p.epoch),.raw (.int .i64 p.frm),.raw (.int .i64 p.chain),.raw (.int .i64 p.index),.raw (.int .i64 p.of_),bP p.b]
abbrev Pc.cv (p:Pc):List AV:=[i64 p.seq,i64 p.epoch,i64 p.frm,i64 p.chain,i64 p.index,i64 p.of_,bA p.b]
abbrev Pc.av (p:Pc):AV:=.agg p.cv
def Pc.words (p:Pc):Bool:=[p.seq,p.epoch,p.frm,p.chain].all X2
def Pc.may (p:Pc):Bool:=p.words&&decide (p.frm≤p.seq)&&decide (p.of_≥1)&&decide (p.of_≤64)&&decide (p.index≥0)&&decide (p.index<p.of_)&&decide (p.b.length≤200)
end Go.Proofs.YtinfbclgkghgaaaGreat.AL
namespace Go.Proofs.YtinfbclgkghgaaaGreat.AL
open Go Go.Proofs
def pcB (p:Pc):y7:=y2z p.frm.toNat++(y2z p.chain.toNat++(y2z p.index.toNat++(y2z p.of_.toNat++v5h p.b)))
def q3k (g:GeoV)(m slot:Int):Int:=4+m*g.w+slot
def Pc.blk (p:Pc)(vol:Int)(g:GeoV)(m:Int):Blk:=⟨3,vol,q3k g m (p.seq.tmod g.w),p.epoch,p.seq,pcB p⟩
def Pc.sector (p:Pc)(vol:Int)(g:GeoV)(m:Int):y7 × Int:=match p.may&&(g.may&&(X2 vol&&(!decide (m<0)&&!decide (m≥2)))) with
 |false=>([],1)
 |true=>(p.blk vol g m).sld
theorem Pc.of_may {p:Pc}(h:p.may=true):(0≤p.seq∧p.seq≤4294967295)∧(0≤p.epoch∧p.epoch≤4294967295)∧(0≤p.frm∧p.frm≤4294967295)∧(0≤p.chain∧p.chain≤4294967295)∧p.frm≤p.seq∧1≤p.of_∧p.of_≤64∧0≤p.index∧p.index<p.of_∧p.b.length≤200:=by
 unfold Pc.may Pc.words X2 at h
 simp only[List.all_cons,List.all_nil,Bool.and_true,Bool.and_eq_true,decide_eq_true_eq]at h
 omega
theorem w6f {p:Pc}(h:p.may=true):(pcB p).length≤214:=by
 obtain⟨h1,h2,h3,h4,h5,h6,h7,h8,h9,h10⟩:=p.of_may h
 have a:=q9d 4 p.frm.toNat (by omega)
 have b:=q9d 4 p.chain.toNat (by omega)
 have c:=q9d 0 p.index.toNat (by omega)
 have d:=q9d 0 p.of_.toNat (by omega)
 have e:=q9d 1 p.b.length (by omega)
 unfold pcB v5h
 simp only[List.length_append]
 omega
theorem GeoV.of_may {g:GeoV}(h:g.may=true):8≤g.w∧g.w≤512∧1≤g.s∧g.s≤32∧1≤g.k∧g.k≤16∧1≤g.m∧g.m≤8:=by
 unfold GeoV.may at h
 rw[Bool.and_eq_true]at h
 exact V0 h.1
end Go.Proofs.YtinfbclgkghgaaaGreat.AL
namespace Go.Proofs.YtinfbclgkghgaaaGreat.AL
open Go Go.Proofs
theorem x5f:∀ k:Nat,k≤255→∀ i,i<k→(stT k).1[i]?=some (Gf.pw i)∧(stT k).1[i+255]?=some (Gf.pw i)
 |0,_,i,h=>by omega
 |k+1,hk,i,hi=>by
  obtain⟨l1,_⟩:=z0i k
  rw[stT]
  by_cases e:i=k
  ·subst e
   refine⟨?_,List.getElem?_set_self (by rw[List.length_set,l1];omega)⟩
   rw[List.getElem?_set_ne (by omega),List.getElem?_set_self (by rw[l1];omega)]
  ·obtain⟨h1,h2⟩:=x5f k (by omega) i (by omega)
   refine⟨?_,?_⟩
   ·rw[List.getElem?_set_ne (by omega),List.getElem?_set_ne (by omega)];exact h1
   ·rw[List.getElem?_set_ne (by omega),List.getElem?_set_ne (by omega)];exact h2
theorem w6g:∀ k:Nat,k≤255→∀ i,i<k→(stT k).2[(Gf.pw i).toNat]?=some (i:Int)
 |0,_,i,h=>by omega
 |k+1,hk,i,hi=>by
  obtain⟨_,l2⟩:=z0i k
  rw[stT]
  by_cases e:i=k
  ·subst e
   exact List.getElem?_set_self (by rw[l2];exact(Gf.pw i).toNat_lt)
  ·rw[List.getElem?_set_ne]
   ·exact w6g k (by omega) i (by omega)
   ·intro h
    have h:=UInt8.toNat_inj.mp h
    have h1:=Gf.lg_pw (show k<255 by omega)
    rw[h,Gf.lg_pw (by omega)]at h1
    exact e h1
theorem v5j {n:Nat}(h:n<510):fP[n]?=some (u8 (Gf.pw n)):=by
 obtain⟨l1,l2⟩:=z0i 255
 unfold fP
 rw[List.append_assoc,List.getElem?_append_left (by rw[List.length_map,l1];exact h),List.getElem?_map]
 by_cases e:n<255
 ·rw[(x5f 255 (Nat.le_refl _) n e).1];rfl
 ·have:=(x5f 255 (Nat.le_refl _) (n - 255) (by omega)).2
  rw[show n - 255+255=n by omega]at this
  rw[this]
  have h2:=Gf.pw_add (n - 255)
  rw[show n - 255+255=n by omega]at h2
  rw[h2];rfl
theorem x5g {a:UInt8}(h:a≠0):fP[510+a.toNat]?=some (.raw (.int .i64 (Gf.lg a))):=by
 obtain⟨l1,l2⟩:=z0i 255
 obtain⟨h1,h2⟩:=Gf.lg_ok h
 have ha:=a.toNat_lt
 unfold fP
 rw[List.append_assoc,List.getElem?_append_right (by rw[List.length_map,l1];omega),List.length_map,l1,Nat.add_sub_cancel_left,List.getElem?_append_left (by rw[List.length_map,l2];omega),List.getElem?_map]
 have:=w6g 255 (Nat.le_refl _) (Gf.lg a) h1
 rw[h2]at this
 rw[this];rfl
theorem v8f:fP[766]?=some (.raw (.bool true)):=by
 obtain⟨l1,l2⟩:=z0i 255
 unfold fP
 rw[List.getElem?_append_right (by rw[List.length_append,List.length_map,List.length_map,l1,l2];omega),List.length_append,List.length_map,List.length_map,l1,l2];rfl
theorem u7w {cs:List PV}{x:PV}(h:cs[0]?=some x):cs.take 1=[x]∧1≤cs.length:=by
 cases cs with
 |nil=>simp at h
 |cons y r=>
  obtain rfl:y=x:=by simpa using h
  exact⟨rfl,by simp⟩
theorem u7x {l:List PV}{n:Nat}{x:PV}(h:l[n]?=some x):(l.drop n)[0]?=some x:=by rw[List.getElem?_drop];exact h
theorem z3j {l:List PV}{n k m:Nat}{x:PV}(hm:m=n+k)(h:l[m]?=some x):(l.drop n).drop k=x :: l.drop (m+1):=by
 subst hm
 rw[List.drop_drop]
 obtain⟨h1,h2⟩:=List.getElem?_eq_some_iff.mp h
 rw[List.drop_eq_getElem_cons h1,h2]
abbrev q2q:AV:=.p (.box fP)
set_option maxRecDepth 20000 in
theorem x1n:AF Tryz.prog z7e [q2q] [] (Q0 q2q []):=by
 have h:=v8f
 unfold q2q
 generalize fP=F at h ⊢
 refine u9 hT z7f rfl rfl z7g rfl ?_
 refine q8 (q7 hT ?_)
 refine q8 (q8 (q7 hT ?_))
 obtain⟨e1,e2⟩:=u7w (u7x h)
 conv=>whnf
 refine y3v (decide_eq_true e2) ?_
 rw[e1]
 refine z6 ?_
 refine z9 ?_
 refine q8 (q7 hT ?_)
 refine x6 ?_
 exact y9 [] ⟨rfl,rfl⟩ rfl
set_option maxRecDepth 20000 in
theorem w4b (x:AV)(a b:UInt8):AF Tryz.prog y5q [x,.p (u8 a),.p (u8 b)] [] (Q0 (.p (u8 (a ^^^ b))) []):=by
 refine AF.mono (R:=fun r H'=>∃ z:Int,z=((a ^^^ b).toNat:Int)∧r=.p (.raw (.int .u8 z))∧H'=[]) ?_ (by rintro r H' ⟨z,rfl,rfl,rfl⟩;exact⟨rfl,rfl⟩)
 refine u9 hT y5r rfl rfl y5s rfl ?_
 refine q8 (q7 hT ?_)
 refine q8 (q7 hT ?_)
 refine x6 ?_
 exact y9 [] ⟨_,w3u a b,rfl,rfl⟩ rfl
theorem u8z {a:UInt8}(h:(((a.toNat:Nat):Int)==0)=true):a=0:=by
 rw[beq_iff_eq]at h
 exact UInt8.toNat_inj.mp (by show a.toNat=0;omega)
theorem u7y {a:UInt8}(h:(((a.toNat:Nat):Int)==0)=false):a≠0:=by
 rintro rfl
 exact absurd h (by decide)
set_option maxHeartbeats 1000000 in
set_option maxRecDepth 20000 in
theorem w4c (a b:UInt8):AF Tryz.prog y5t [q2q,.p (u8 a),.p (u8 b)] [] (Q0 (.p (u8 (Gf.mul a b))) []):=by
 refine AF.mono (R:=fun r H'=>∃ z,z=Gf.mul a b∧r=.p (u8 z)∧H'=[]) ?_ (by rintro r H' ⟨z,rfl,rfl,rfl⟩;exact⟨rfl,rfl⟩)
 have wt:=x1n
 have hexp:=@v5j
 have hla:=@x5g a
 have hlb:=@x5g b
 unfold q2q at wt ⊢
 generalize fP=F at hexp hla hlb wt ⊢
 refine u9 hT y5u rfl rfl y5v rfl ?_
 refine q8 (q7 hT ?_)
 refine y8 ⟨⟨34,[(0,.p (.box F)),(1,.p (u8 a)),(2,.p (u8 b))]⟩,[]⟩ (a≠0∧b≠0) (q8 (q7 hT ?_)) ?_
 ·refine x7 (fun h=>?_) (fun h=>?_)
  ·refine z6 ?_
   refine q8 (q7 hT ?_)
   refine x6 ?_
   exact y9 [] ⟨0,by rw[u8z h];exact(Gf.zero_mul b).symm,rfl,rfl⟩ rfl
  have ha:=u7y h
  refine z6 (x7 (fun h=>?_) (fun h=>?_))
  ·refine q8 (q7 hT ?_)
   refine x6 ?_
   exact y9 [] ⟨0,by rw[u8z h];exact(Gf.mul_zero a).symm,rfl,rfl⟩ rfl
  exact z9 ⟨q9 [] [0,1,2] rfl,ha,u7y h⟩
 rintro⟨ha,hb⟩
 obtain⟨a1,a2⟩:=Gf.lg_ok ha
 obtain⟨b1,b2⟩:=Gf.lg_ok hb
 have a3:=a.toNat_lt
 have b3:=b.toNat_lt
 have hm:Gf.mul a b=Gf.pw (Gf.lg a+Gf.lg b):=by
  unfold Gf.mul
  rw[show (a==0)=false from beq_eq_false_iff_ne.mpr ha,show (b==0)=false from beq_eq_false_iff_ne.mpr hb];rfl
 have hla:=hla ha
 have hlb:=hlb hb
 have hex:=hexp (n:=Gf.lg a+Gf.lg b) (by omega)
 rw[← hm]at hex
 generalize Gf.mul a b=m at hex
 generalize Gf.lg a=la at hla hex a1
 generalize Gf.lg b=lb at hlb hex b1
 have hw:IntKind.i64.wrap ((la:Int)+(lb:Int))=((la+lb:Nat):Int):=by rw[x9 _ (by omega) (by omega)];omega
 refine q8 (q7 hT ?_)
 refine x8 (u5 wt _ rfl rfl) ?_
 refine q8 ?_
 refine w9 [] [] hT z8 (by rfl) ?_
 refine⟨⟨by omega,by show ((a.toNat:Nat):Int)<256;omega⟩,?_⟩
 rw[z3j (n:=510) (k:=((a.toNat:Nat):Int).toNat*1) (m:=510+a.toNat) (by omega) hla]
 refine⟨⟨by omega,by show ((b.toNat:Nat):Int)<256;omega⟩,?_⟩
 rw[z3j (n:=510) (k:=((b.toNat:Nat):Int).toNat*1) (m:=510+b.toNat) (by omega) hlb]
 refine⟨⟨by rw[hw];omega,by rw[hw];show ((la+lb:Nat):Int)<510;omega⟩,?_⟩
 rw[z3j (n:=0) (k:=(IntKind.i64.wrap ((la:Int)+(lb:Int))).toNat*1) (m:=la+lb) (by rw[hw];omega) hex]
 refine x6 ?_
 exact y9 [] ⟨m,rfl,rfl,rfl⟩ rfl
set_option maxHeartbeats 1000000 in
set_option maxRecDepth 20000 in
theorem y6x (a:UInt8)(ha:a≠0):AF Tryz.prog y5j [q2q,.p (u8 a)] [] (Q0 (.tup [.p (u8 (Gf.inv a)),i64 0]) []):=by
 have wd:AF Tryz.prog y5w [q2q,.p (u8 1),.p (u8 a)] [] (Q0 (.tup [.p (u8 (Gf.inv a)),i64 0]) []):=by
  refine AF.mono (R:=fun r H'=>∃ z,z=Gf.inv a∧r=.tup [.p (u8 z),i64 0]∧H'=[]) ?_ (by rintro r H' ⟨z,rfl,rfl,rfl⟩;exact⟨rfl,rfl⟩)
  have wt:=x1n
  obtain⟨a1,a2⟩:=Gf.lg_ok ha
  have hla:=x5g ha
  have hl1:=x5g (a:=1) (by decide)
  rw[show Gf.lg 1=0 from Gf.lg_pw (n:=0) (by decide)]at hl1
  have hex:=v5j (n:=255 - Gf.lg a) (by omega)
  have hm:Gf.inv a=Gf.pw (255 - Gf.lg a):=rfl
  have a3:=a.toNat_lt
  rw[← hm]at hex
  generalize Gf.inv a=m at hex
  generalize Gf.lg a=la at hla hex a1
  unfold q2q at wt ⊢
  generalize fP=F at hla hl1 hex wt ⊢
  have hw:IntKind.i64.wrap (IntKind.i64.wrap (((0:Nat):Int)+255) - (la:Int))=((255 - la:Nat):Int):=by rw[x9 (((0:Nat):Int)+255) (by omega) (by omega),x9 _ (by omega) (by omega)];omega
  refine u9 hT y5x rfl rfl y5y rfl ?_
  refine q8 (q7 hT ?_)
  refine y8 ⟨⟨36,[(0,.p (.box F)),(1,.p (u8 1)),(2,.p (u8 a))]⟩,[]⟩ True (z7 (q8 (q7 hT ?_))) (fun _=>?_)
  ·refine z6 (x7 (fun h=>?_) (fun h=>?_))
   ·exact absurd (u8z h) ha
   ·refine q8 (q7 hT ?_)
    refine z6 ?_
    exact z9 ⟨q9 [] [0,1,2] rfl,trivial⟩
  refine q8 (q7 hT ?_)
  refine x8 (u5 wt _ rfl rfl) ?_
  refine q8 ?_
  refine w9 [] [] hT z8 (by rfl) ?_
  refine⟨⟨by decide,by decide⟩,?_⟩
  rw[z3j (n:=510) (k:=(((1:UInt8).toNat:Nat):Int).toNat*1) (m:=510+1) (by decide) hl1]
  refine⟨⟨by omega,by show ((a.toNat:Nat):Int)<256;omega⟩,?_⟩
  rw[z3j (n:=510) (k:=((a.toNat:Nat):Int).toNat*1) (m:=510+a.toNat) (by omega) hla]
  refine⟨⟨by rw[hw];omega,by rw[hw];show ((255 - la:Nat):Int)<510;omega⟩,?_⟩
  rw[z3j (n:=0) (k:=(IntKind.i64.wrap (IntKind.i64.wrap (((0:Nat):Int)+255) - (la:Int))).toNat*1) (m:=255 - la) (by rw[hw];omega) hex]
  refine x6 ?_
  exact y9 [] ⟨m,rfl,rfl,rfl⟩ rfl
 generalize Gf.inv a=m at wd ⊢
 refine u9 hT y5k rfl rfl y5m rfl ?_
 refine q8 (q7 hT ?_)
 refine q8 (q7 hT ?_)
 refine x8 (u5 wd _ rfl rfl) ?_
 refine x6 ?_
 exact y9 [] ⟨rfl,rfl⟩ rfl
end Go.Proofs.YtinfbclgkghgaaaGreat.AL
namespace Go.Proofs.YtinfbclgkghgaaaGreat.AL
open Go Go.RowKit
theorem J3 {m:Nat}{s:St}(b:Nat){t:TypeId}{xs:List (List PV)}(ps:List PV)(hb:s.H[b]?=some (.row t 1 xs))(hx:xs=ps.map fun p=>[p])(hne:ps≠[]):Wk m s ⟨s.fr,s.H.set b (.cells t (ps.map .p))⟩:=fun N w I ι a hs hm=>by
 subst hx
 have hlive:live s.H b:=⟨_,hb,rfl⟩
 have hlv:∀ c,live (s.H.set b (.cells t (ps.map .p))) c→live s.H c:=fun c hc=>q1p hc hlive
 have hsim:SimH w I ι (s.H.set b (.cells t (ps.map .p))):=by
  refine⟨fun c k hc=>?_,fun c c' B hc hc'=>hs.H.inj c c' B (hlv c hc) (hlv c' hc'),hs.H.Ilt,fun c hc=>hs.H.dom c (by simpa using hc),hs.H.rng⟩
  by_cases e:c=b
  ·subst e
   rw[List.getElem?_set_self (V9 hlive)]at hc
   obtain rfl:=Option.some.inj hc
   rcases hs.H.blk c _ hb with ⟨g1,g2⟩|⟨B,cs,g1,g2,g3,g4,g5,g6⟩
   ·exact absurd (List.map_eq_nil_iff.mp g1) hne
   ·refine⟨B,cs,g1,g2,g3,by simpa using g4,fun i u hu=>?_⟩
    rw[List.getElem?_map]at hu
    cases hp:ps[i]? with
    |none=>rw[hp]at hu;cases hu
    |some p=>
     rw[hp]at hu
     obtain rfl:=Option.some.inj hu
     have:=(g6 i [p] (by rw[List.getElem?_map,hp];rfl)).2 0 p rfl
     rw[Nat.mul_one,Nat.add_zero]at this
     exact .p this
  ·rw[List.getElem?_set_ne (by omega)]at hc
   exact hs.H.blk c k hc
 have hx:Ex m w I ι s.H w I ι (s.H.set b (.cells t (ps.map .p))):=⟨⟨rfl,rfl,rfl,Nat.le_refl _,Shape.refl w,fun _ h=>h,fun _ _ _=>rfl,fun _ h=>.inl h,fun c B hc h=>.inr ⟨c,hlv c hc,h⟩⟩,fun _ _=>rfl,by simpa using hm⟩
 exact⟨I,ι,hs.turn ⟨hs.fr.1,hs.fr.2⟩ hsim hx,hx⟩
theorem q1g {m:Nat}{s:St}(b:Nat){t:TypeId}{l:List AV}(ps:List PV)(hb:s.H[b]?=some (.cells t l))(hx:l=ps.map .p)(hl:ps.length≤140737488355328):Wk m s ⟨s.fr,s.H.set b (.row t 1 (ps.map fun p=>[p]))⟩:=fun N w I ι a hs hm=>by
 subst hx
 have hlive:live s.H b:=⟨_,hb,rfl⟩
 have hlv:∀ c,live (s.H.set b (.row t 1 (ps.map fun p=>[p]))) c→live s.H c:=fun c hc=>q1p hc hlive
 have hsim:SimH w I ι (s.H.set b (.row t 1 (ps.map fun p=>[p]))):=by
  refine⟨fun c k hc=>?_,fun c c' B hc hc'=>hs.H.inj c c' B (hlv c hc) (hlv c' hc'),hs.H.Ilt,fun c hc=>hs.H.dom c (by simpa using hc),hs.H.rng⟩
  by_cases e:c=b
  ·subst e
   rw[List.getElem?_set_self (V9 hlive)]at hc
   obtain rfl:=Option.some.inj hc
   obtain⟨B,cs,g1,g2,g3,g4,g5⟩:=hs.H.blk c _ hb
   refine .inr ⟨B,cs,g1,g2,g3,by simpa using g4,by simpa using hl,fun j e he=>?_⟩
   rw[List.getElem?_map]at he
   cases hp:ps[j]? with
   |none=>rw[hp]at he;cases he
   |some p=>
    rw[hp]at he
    obtain rfl:=Option.some.inj he
    refine⟨rfl,fun i u hu=>?_⟩
    have h1:=g5 j (.p p) (by rw[List.getElem?_map,hp];rfl)
    cases i with
    |zero=>
     obtain rfl:=Option.some.inj hu
     rw[Nat.mul_one,Nat.add_zero]
     cases h1 with
     |p h=>exact h
    |succ i=>simp at hu
  ·rw[List.getElem?_set_ne (by omega)]at hc
   exact hs.H.blk c k hc
 have hx:Ex m w I ι s.H w I ι (s.H.set b (.row t 1 (ps.map fun p=>[p]))):=⟨⟨rfl,rfl,rfl,Nat.le_refl _,Shape.refl w,fun _ h=>h,fun _ _ _=>rfl,fun _ h=>.inl h,fun c B hc h=>.inr ⟨c,hlv c hc,h⟩⟩,fun _ _=>rfl,by simpa using hm⟩
 exact⟨I,ι,hs.turn ⟨hs.fr.1,hs.fr.2⟩ hsim hx,hx⟩
end Go.Proofs.YtinfbclgkghgaaaGreat.AL
