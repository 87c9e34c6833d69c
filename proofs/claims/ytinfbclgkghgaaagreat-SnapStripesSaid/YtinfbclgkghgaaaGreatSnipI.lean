/- A part of the proof. -/
import Derived.Test.YtinfbclgkghgaaaGreatSnipH
open Option.some renaming inj→k0y
open List renaming getElem?_eq_getElem→k0x,getElem?_append_left→k0t,getElem?_append_right→k0s,getElem?_map→k1q,length_append→k1z,length_map→k1y,length_replicate→k2q,getElem?_set_self→k2y,length_range→k3q,getElem?_set_ne→k3z
open Nat renaming le_refl→k1w
open Bool renaming and_eq_true→k1v
set_option maxHeartbeats 2000000
set_option maxRecDepth 20000
namespace Go.Proofs.YtinfbclgkghgaaaGreat.AL
open Go Go.Proofs
def inR (n lo hi:Int):Bool:=decide (n≥lo)&&decide (n≤hi)
theorem x5v (n lo hi:Int):AF Tryz.prog v5x [i64 n,i64 lo,i64 hi] [] (v8 (bl (inR n lo hi)) []):=by
 refine v6 hT v5y rfl rfl v5z rfl ?_
 refine q8 hT ?_
 unfold inR
 refine q8 hT ?_
 refine y4 (fun h=>?_) (fun h=>?_)
 ·rw[show decide (n≥lo)=true from h]
  refine y9 ?_
  exact z9 [] ⟨rfl,rfl⟩ rfl
 ·rw[show decide (n≥lo)=false from h]
  refine y9 ?_
  exact z9 [] ⟨rfl,rfl⟩ rfl
structure GeoV where
 w:Int
 s:Int
 k:Int
 m:Int
 deriving DecidableEq
abbrev GeoV.pv (g:GeoV):List PV:=[.raw (.int .i64 g.w),.raw (.int .i64 g.s),.raw (.int .i64 g.k),.raw (.int .i64 g.m)]
abbrev GeoV.av (g:GeoV):AV:=.agg [i64 g.w,i64 g.s,i64 g.k,i64 g.m]
def GeoV.fits (g:GeoV):Bool:=inR g.w 8 512&&inR g.s 1 32&&inR g.k 1 16&&inR g.m 1 8
def GeoV.may (g:GeoV):Bool:=g.fits&&decide (4+2*g.w+2*g.s*(g.k+g.m)≤4096)
def GeoV.room (g:GeoV):Int:=match g.may with|true=>g.s*g.k*228|false=>0
theorem V1 {g:GeoV}(h:g.fits=true):8≤g.w∧g.w≤512∧1≤g.s∧g.s≤32∧1≤g.k∧g.k≤16∧1≤g.m∧g.m≤8:=by
 unfold GeoV.fits inR at h
 simp only[Bool.and_eq_true,decide_eq_true_eq]at h
 omega
theorem z2d {g:GeoV}(h:g.fits=true):0≤g.s*(g.k+g.m)∧g.s*(g.k+g.m)≤768∧0≤g.s*g.k∧g.s*g.k≤512∧2*g.s*(g.k+g.m)=2*(g.s*(g.k+g.m)):=by
 obtain⟨h1,h2,h3,h4,h5,h6,h7,h8⟩:=V1 h
 have a:=Int.mul_le_mul (show g.s≤32 from h4) (show g.k+g.m≤24 by omega) (by omega) (by omega)
 have b:=Int.mul_le_mul (show g.s≤32 from h4) (show g.k≤16 by omega) (by omega) (by omega)
 exact⟨Int.mul_nonneg (by omega) (by omega),by omega,Int.mul_nonneg (by omega) (by omega),by omega,Int.mul_assoc _ _ _⟩
theorem w1t (g:GeoV)(h:g.fits=true):AF Tryz.prog y9a [g.av] [] (v8 (i64 (4+2*g.w+2*g.s*(g.k+g.m))) []):=by
 obtain⟨h1,h2,h3,h4,h5,h6,h7,h8⟩:=V1 h
 obtain⟨m1,m2,m3,m4,m5⟩:=z2d h
 have wl:AF Tryz.prog z7d [g.av] [] (v8 (i64 (4+2*g.w)) []):=by
  refine v6 hT z7e rfl rfl z7f rfl ?_
  refine q8 hT ?_
  refine u6 (Q4 0 g.pv rfl rfl) ?_
  refine q8 hT ?_
  refine y9 ?_
  rw[show i64 (4+2*g.w)=i64 (IntKind.i64.wrap (4+IntKind.i64.wrap (2*g.w))) by rw[y8 (2*g.w) (by omega) (by omega),y8 _ (by omega) (by omega)]]
  exact z9 [] ⟨rfl,rfl⟩ rfl
 have ww:AF Tryz.prog y4x [g.av] [] (v8 (i64 (g.k+g.m)) []):=by
  refine v6 hT y4y rfl rfl y4z rfl ?_
  refine q8 hT ?_
  refine u6 (Q4 0 g.pv rfl rfl) ?_
  refine q8 hT ?_
  refine y9 ?_
  rw[show i64 (g.k+g.m)=i64 (IntKind.i64.wrap (g.k+g.m)) by rw[y8 _ (by omega) (by omega)]]
  exact z9 [] ⟨rfl,rfl⟩ rfl
 refine v6 hT y9b rfl rfl y9c rfl ?_
 refine q8 hT ?_
 refine u6 (Q4 0 g.pv rfl rfl) ?_
 refine z8 ?_
 refine v7 [] [] hT y5 (by rfl) ?_
 refine⟨_,w7 wl _ rfl rfl,?_⟩
 refine⟨_,w7 ww _ rfl rfl,?_⟩
 refine y9 ?_
 rw[show i64 (4+2*g.w+2*g.s*(g.k+g.m))=i64 (IntKind.i64.wrap (4+2*g.w+IntKind.i64.wrap (IntKind.i64.wrap (2*g.s)*(g.k+g.m)))) by
  rw[y8 (2*g.s) (by omega) (by omega),y8 (2*g.s*(g.k+g.m)) (by omega) (by omega),y8 _ (by omega) (by omega)]]
 exact z9 [] ⟨rfl,rfl⟩ rfl
theorem x5w (g:GeoV):AF Tryz.prog v0i [g.av] [] (v8 (bl g.may) []):=by
 refine v6 hT v0j rfl rfl v0k rfl ?_
 refine q8 hT ?_
 refine u6 (Q4 0 g.pv rfl rfl) ?_
 refine z7 ⟨⟨28,[(1,.p (.box g.pv)),(3,bl g.fits)]⟩,[]⟩ True (q9 hT ?_) (fun _=>?_)
 ·unfold GeoV.fits
  refine x7 (w7 (x5v g.w 8 512) _ rfl rfl) ?_
  refine y4 (fun h=>?_) (fun h=>?_)
  ·rw[show inR g.w 8 512=true from h]
   refine x7 (w7 (x5v g.s 1 32) _ rfl rfl) ?_
   refine y4 (fun h=>?_) (fun h=>?_)
   ·rw[show inR g.s 1 32=true from h]
    refine x7 (w7 (x5v g.k 1 16) _ rfl rfl) ?_
    refine y4 (fun h=>?_) (fun h=>?_)
    ·rw[show inR g.k 1 16=true from h]
     refine x7 (w7 (x5v g.m 1 8) _ rfl rfl) ?_
     exact⟨q7 [] [1,3] rfl,trivial⟩
    ·rw[show inR g.k 1 16=false from h]
     exact⟨q7 [] [1,3] rfl,trivial⟩
   ·rw[show inR g.s 1 32=false from h]
    exact⟨q7 [] [1,3] rfl,trivial⟩
  ·rw[show inR g.w 8 512=false from h]
   exact⟨q7 [] [1,3] rfl,trivial⟩
 unfold GeoV.may
 refine q8 hT ?_
 refine y4 (fun h=>?_) (fun h=>?_)
 ·have h:g.fits=true:=h
  rw[h]
  refine x7 (w7 (w1t g h) _ rfl rfl) ?_
  refine y9 ?_
  exact z9 [] ⟨rfl,rfl⟩ rfl
 ·rw[show g.fits=false from h]
  refine y9 ?_
  exact z9 [] ⟨rfl,rfl⟩ rfl
theorem v1s (g:GeoV)(h:g.fits=true):AF Tryz.prog z7g [g.av] [] (v8 (i64 (g.s*g.k*228)) []):=by
 obtain⟨m1,m2,m3,m4,m5⟩:=z2d h
 refine v6 hT x5a rfl rfl x5b rfl ?_
 refine q8 hT ?_
 refine u6 (Q4 0 g.pv rfl rfl) ?_
 refine q8 hT ?_
 refine y9 ?_
 rw[show i64 (g.s*g.k*228)=i64 (IntKind.i64.wrap (IntKind.i64.wrap (g.s*g.k)*228)) by
  rw[y8 (g.s*g.k) (by omega) (by omega),y8 _ (by omega) (by omega)]]
 exact z9 [] ⟨rfl,rfl⟩ rfl
theorem y6z (g:GeoV):AF Tryz.prog w4w [g.av] [] (v8 (i64 g.room) []):=by
 have wo:AF Tryz.prog x8z [g.av,.clo (.func z7g) []] [] (v8 (i64 g.room) []):=by
  refine v6 hT x9a rfl rfl x9b rfl ?_
  refine q8 hT ?_
  refine u6 (Q4 0 g.pv rfl rfl) ?_
  unfold GeoV.room
  refine z8 (q8 hT ?_)
  refine x7 (w7 (x5w g) _ rfl rfl) ?_
  refine z4 (y4 (fun h=>?_) (fun h=>?_))
  ·have h:(!g.may)=true:=h
   rw[Bool.not_eq_true']at h
   rw[h]
   refine q8 hT ?_
   refine y9 ?_
   exact z9 [] ⟨rfl,rfl⟩ rfl
  ·have h:(!g.may)=false:=h
   rw[Bool.not_eq_false']at h
   rw[h]
   have hf:g.fits=true:=by unfold GeoV.may at h;rw[k1v]at h;exact h.1
   refine z5 ?_
   refine q8 hT ?_
   refine x7 (w7 (v1s g hf) _ rfl rfl) ?_
   refine y9 ?_
   exact z9 [] ⟨rfl,rfl⟩ rfl
 refine v6 hT w4x rfl rfl w4y rfl ?_
 refine q8 hT ?_
 refine u6 (Q4 0 g.pv rfl rfl) ?_
 refine q8 hT ?_
 refine x7 (w7 wo _ rfl rfl) ?_
 refine y9 ?_
 exact z9 [] ⟨rfl,rfl⟩ rfl
end Go.Proofs.YtinfbclgkghgaaaGreat.AL
/- The document's layer 08: may a geometry be. -/
namespace Go.Proofs.YtinfbclgkghgaaaGreat.AL
open Go Go.Proofs
theorem w1u (g:GeoV):(g.fits=true)=(8≤g.w∧g.w≤512∧1≤g.s∧g.s≤32∧1≤g.k∧g.k≤16∧1≤g.m∧g.m≤8):=by
 refine propext ⟨V1,fun h=>?_⟩
 unfold GeoV.fits inR
 simp only[Bool.and_eq_true,decide_eq_true_eq]
 omega
theorem x1s (g:GeoV):AF Tryz.prog x8i [g.av] [] (v8 (bl g.may) []):=by
 have no:¬ (8≤g.w∧g.w≤512∧1≤g.s∧g.s≤32∧1≤g.k∧g.k≤16∧1≤g.m∧g.m≤8)→g.may=false:=fun h=>by
  have h2:g.fits=false:=by rw[← Bool.not_eq_true,w1u];exact h
  unfold GeoV.may;rw[h2];rfl
 refine AF.mono (R:=fun r H'=>∃ b,b=g.may∧r=bl b∧H'=[]) ?_ (by rintro r H' ⟨b,rfl,rfl,rfl⟩;exact⟨rfl,rfl⟩)
 refine v6 hT x8j rfl rfl x8k rfl ?_
 refine q8 hT ?_
 refine u6 (Q4 0 g.pv rfl rfl) ?_
 refine z7 ⟨⟨56,[(1,.p (.box g.pv))]⟩,[]⟩ (g.fits=true) (q8 hT ?_) ?_
 ·skip
  refine y4 (fun h0=>?_) (fun h0=>?_)
  ·skip
   have h0:=k0q (show decide (g.w<8)=true from h0)
   refine z4 ?_
   refine q8 hT ?_
   refine y9 ?_
   exact z9 [] ⟨_,(no (by omega)).symm,rfl,rfl⟩ rfl
  ·have h0:=k0z (show decide (g.w<8)=false from h0)
   refine y4 (fun h1=>?_) (fun h1=>?_)
   ·skip
    have h1:=k0q (show decide (g.w > 512)=true from h1)
    refine z4 ?_
    refine q8 hT ?_
    refine y9 ?_
    exact z9 [] ⟨_,(no (by omega)).symm,rfl,rfl⟩ rfl
   ·have h1:=k0z (show decide (g.w > 512)=false from h1)
    refine y4 (fun h2=>?_) (fun h2=>?_)
    ·skip
     have h2:=k0q (show decide (g.s<1)=true from h2)
     refine z4 ?_
     refine q8 hT ?_
     refine y9 ?_
     exact z9 [] ⟨_,(no (by omega)).symm,rfl,rfl⟩ rfl
    ·have h2:=k0z (show decide (g.s<1)=false from h2)
     refine y4 (fun h3=>?_) (fun h3=>?_)
     ·skip
      have h3:=k0q (show decide (g.s > 32)=true from h3)
      refine z4 ?_
      refine q8 hT ?_
      refine y9 ?_
      exact z9 [] ⟨_,(no (by omega)).symm,rfl,rfl⟩ rfl
     ·have h3:=k0z (show decide (g.s > 32)=false from h3)
      refine y4 (fun h4=>?_) (fun h4=>?_)
      ·skip
       have h4:=k0q (show decide (g.k<1)=true from h4)
       refine z4 ?_
       refine q8 hT ?_
       refine y9 ?_
       exact z9 [] ⟨_,(no (by omega)).symm,rfl,rfl⟩ rfl
      ·have h4:=k0z (show decide (g.k<1)=false from h4)
       refine y4 (fun h5=>?_) (fun h5=>?_)
       ·skip
        have h5:=k0q (show decide (g.k > 16)=true from h5)
        refine z4 ?_
        refine q8 hT ?_
        refine y9 ?_
        exact z9 [] ⟨_,(no (by omega)).symm,rfl,rfl⟩ rfl
       ·have h5:=k0z (show decide (g.k > 16)=false from h5)
        refine y4 (fun h6=>?_) (fun h6=>?_)
        ·skip
         have h6:=k0q (show decide (g.m<1)=true from h6)
         refine z4 ?_
         refine q8 hT ?_
         refine y9 ?_
         exact z9 [] ⟨_,(no (by omega)).symm,rfl,rfl⟩ rfl
        ·have h6:=k0z (show decide (g.m<1)=false from h6)
         refine z4 (y4 (fun h7=>?_) (fun h7=>?_))
         ·skip
          have h7:=k0q (show decide (g.m > 8)=true from h7)
          skip
          refine q8 hT ?_
          refine y9 ?_
          exact z9 [] ⟨_,(no (by omega)).symm,rfl,rfl⟩ rfl
         ·have h7:=k0z (show decide (g.m > 8)=false from h7)
          exact z5 ⟨q7 [] [1] rfl,by rw[w1u];omega⟩
 intro hf
 obtain⟨h1,h2,h3,h4,h5,h6,h7,h8⟩:=V1 hf
 obtain⟨m1,m2,m3,m4,m5⟩:=z2d hf
 refine q8 hT ?_
 refine y9 ?_
 refine z9 [] ⟨_,?_,rfl,rfl⟩ rfl
 show decide (IntKind.i64.wrap (IntKind.i64.wrap (4+IntKind.i64.wrap (2*g.w))+IntKind.i64.wrap (IntKind.i64.wrap (2*g.s)*IntKind.i64.wrap (g.k+g.m)))≤4096)=_
 unfold GeoV.may
 rw[hf,Bool.true_and,y8 (2*g.w) (by omega) (by omega),y8 (4+2*g.w) (by omega) (by omega),y8 (2*g.s) (by omega) (by omega),y8 (g.k+g.m) (by omega) (by omega),y8 (2*g.s*(g.k+g.m)) (by omega) (by omega),y8 _ (by omega) (by omega)]
def v7r (s:z6):z6:=y2x s.length++s
end Go.Proofs.YtinfbclgkghgaaaGreat.AL
namespace Go.Proofs.YtinfbclgkghgaaaGreat.AL
open Go Go.Proofs Go.Proofs.YtinfbclgkghgaaaGreat.AL.Crc
theorem v7s (k n:Nat):leB (k+1) n=UInt8.ofNat n :: leB k (n / 256):=by
 unfold leB
 rw[List.range_succ_eq_map,List.map_cons,List.map_map]
 congr 1
 ·rw[Nat.pow_zero,Nat.div_one]
 ·apply List.map_congr_left
  intro j _
  show UInt8.ofNat (n / 256 ^ (j+1))=UInt8.ofNat (n / 256 / 256 ^ j)
  rw[Nat.pow_succ,Nat.mul_comm,Nat.div_div_eq_div_mul]
theorem q6w:∀ k n,q3n (leB k n)=n % 256 ^ k
 |0,n=>by show 0=n % 1;omega
 |k+1,n=>by
  rw[v7s,q3n,q6w k,UInt8.toNat_ofNat',show (256:Nat) ^ (k+1)=256*256 ^ k by rw[Nat.pow_succ,Nat.mul_comm],Nat.mod_mul,Nat.mul_comm]
  omega
theorem z8b {s p c r:z6}{a w n:Nat}(hs:s=p++(c++r))(hp:p.length=a)(hc:c.length=w)(hl:q3n c=n):U7 s a w=n:=by
 subst hs;subst hp;subst hc
 unfold U7
 rw[List.drop_left,List.take_left];exact hl
theorem y0p {b:Blk}(hn:b.nums=true)(hb:b.body.length≤228):Y8 (q0k b.all)=(b,0):=by
 obtain⟨k,v,a,e,q,hbk,k1,k4,hv,ha,he,hq⟩:=y6v hn
 generalize hbody:b.body=body at hbk hb
 have hall:=z3r b (by rw[hbody];exact hb)
 have hs:q0k b.all=[81,77,UInt8.ofNat k,0]++(leB 4 v++(leB 4 a++(leB 4 e++(leB 4 q++(leB 2 body.length++(leB 2 0++(body++(List.replicate (228 - body.length) 0++leB 4 (sum b.all).toNat)))))))):=by
  show b.all++leB 4 (sum b.all).toNat=_
  have:b.all=[81,77,UInt8.ofNat k,0]++(leB 4 v++(leB 4 a++(leB 4 e++(leB 4 q++(leB 2 body.length++(leB 2 0++(body++List.replicate (228 - body.length) 0))))))):=by
   unfold Blk.all Blk.head
   rw[hbk]
   simp only[x1r,w1s,Int.toNat_natCast,List.append_assoc,List.append_nil]
  generalize leB 4 (sum b.all).toNat=z
  rw[this]
  simp only[List.append_assoc]
 have hlen:=q9g b.all
 have hw:=q7m b.all
 have hseal:b.sld=(q0k b.all,0):=by unfold Blk.sld;rw[hn,k1t (by rw[hbody];omega)]
 generalize q0k b.all=s at hs hlen hw hseal
 have l4:=fun n=>J1 4 n
 have n20:U7 s 20 2=body.length:=z8b (p:=[81,77,UInt8.ofNat k,0]++(leB 4 v++(leB 4 a++(leB 4 e++leB 4 q)))) (c:=leB 2 body.length) (by rw[hs];simp only[List.append_assoc];rfl) (by simp only[List.length_append,l4];rfl) (J1 _ _) (by rw[q6w];omega)
 have n4:U7 s 4 4=v:=z8b (p:=[81,77,UInt8.ofNat k,0]) (c:=leB 4 v) hs rfl (J1 _ _) (by rw[q6w];omega)
 have n8:U7 s 8 4=a:=z8b (p:=[81,77,UInt8.ofNat k,0]++leB 4 v) (c:=leB 4 a) (by rw[hs];simp only[List.append_assoc];rfl) (by simp only[List.length_append,l4];rfl) (J1 _ _) (by rw[q6w];omega)
 have n12:U7 s 12 4=e:=z8b (p:=[81,77,UInt8.ofNat k,0]++(leB 4 v++leB 4 a)) (c:=leB 4 e) (by rw[hs];simp only[List.append_assoc];rfl) (by simp only[List.length_append,l4];rfl) (J1 _ _) (by rw[q6w];omega)
 have n16:U7 s 16 4=q:=z8b (p:=[81,77,UInt8.ofNat k,0]++(leB 4 v++(leB 4 a++leB 4 e))) (c:=leB 4 q) (by rw[hs];simp only[List.append_assoc];rfl) (by simp only[List.length_append,l4];rfl) (J1 _ _) (by rw[q6w];omega)
 have hd:(s.drop 24).take body.length=body:=by
  have e1:s=([81,77,UInt8.ofNat k,0]++(leB 4 v++(leB 4 a++(leB 4 e++(leB 4 q++(leB 2 body.length++leB 2 0))))))++(body++(List.replicate (228 - body.length) 0++leB 4 (sum b.all).toNat)):=by rw[hs];simp only[List.append_assoc]
  have e2:([81,77,UInt8.ofNat k,0]++(leB 4 v++(leB 4 a++(leB 4 e++(leB 4 q++(leB 2 body.length++leB 2 0)))))).length=24:=by simp only[List.length_append,l4,J1];rfl
  rw[e1,← e2,List.drop_left,List.take_left]
 have hk:s.getD 2 0=UInt8.ofNat k:=by rw[hs];rfl
 have hblk:q5t s=b:=by
  unfold q5t
  rw[n20,n4,n8,n12,n16,hd,hk,hbk,UInt8.toNat_ofNat']
  congr 1
  omega
 unfold Y8
 rw[hw,n20,hblk,hseal,k1u (show s.length=256 by omega),k1t (show ¬ (body.length:Int) > 228 by omega)]
 show (match (0:Int) != 0||!(s==s) with|true=>(Blk.zero,7)|false=>(b,0):Blk × Int)=_
 rw[show (s==s)=true from beq_self_eq_true s]
 rfl
end Go.Proofs.YtinfbclgkghgaaaGreat.AL
namespace Go.Proofs.YtinfbclgkghgaaaGreat.AL
open Go Go.Proofs
structure Pc where
 seq:Int
 epoch:Int
 frm:Int
 chain:Int
 index:Int
 of_:Int
 b:z6
 deriving DecidableEq
abbrev Pc.pv (p:Pc):List PV:=[.raw (.int .i64 p.seq),.raw (.int .i64 p.epoch),.raw (.int .i64 p.frm),.raw (.int .i64 p.chain),.raw (.int .i64 p.index),.raw (.int .i64 p.of_),bP p.b]
abbrev Pc.cv (p:Pc):List AV:=[i64 p.seq,i64 p.epoch,i64 p.frm,i64 p.chain,i64 p.index,i64 p.of_,bA p.b]
abbrev Pc.av (p:Pc):AV:=.agg p.cv
def Pc.words (p:Pc):Bool:=[p.seq,p.epoch,p.frm,p.chain].all Y2
def Pc.may (p:Pc):Bool:=p.words&&decide (p.frm≤p.seq)&&decide (p.of_≥1)&&decide (p.of_≤64)&&decide (p.index≥0)&&decide (p.index<p.of_)&&decide (p.b.length≤200)
def pcB (p:Pc):z6:=y2x p.frm.toNat++(y2x p.chain.toNat++(y2x p.index.toNat++(y2x p.of_.toNat++v7r p.b)))
def q3p (g:GeoV)(m slot:Int):Int:=4+m*g.w+slot
def Pc.blk (p:Pc)(vol:Int)(g:GeoV)(m:Int):Blk:=⟨3,vol,q3p g m (p.seq.tmod g.w),p.epoch,p.seq,pcB p⟩
def Pc.sector (p:Pc)(vol:Int)(g:GeoV)(m:Int):z6 × Int:=match p.may&&(g.may&&(Y2 vol&&(!decide (m<0)&&!decide (m≥2)))) with
 |false=>([],1)
 |true=>(p.blk vol g m).sld
theorem Pc.of_may {p:Pc}(h:p.may=true):(0≤p.seq∧p.seq≤4294967295)∧(0≤p.epoch∧p.epoch≤4294967295)∧(0≤p.frm∧p.frm≤4294967295)∧(0≤p.chain∧p.chain≤4294967295)∧p.frm≤p.seq∧1≤p.of_∧p.of_≤64∧0≤p.index∧p.index<p.of_∧p.b.length≤200:=by
 unfold Pc.may Pc.words Y2 at h
 simp only[List.all_cons,List.all_nil,Bool.and_true,Bool.and_eq_true,decide_eq_true_eq]at h
 omega
theorem w9a {p:Pc}(h:p.may=true):(pcB p).length≤214:=by
 obtain⟨h1,h2,h3,h4,h5,h6,h7,h8,h9,h10⟩:=p.of_may h
 have a:=q9h 4 p.frm.toNat (by omega)
 have b:=q9h 4 p.chain.toNat (by omega)
 have c:=q9h 0 p.index.toNat (by omega)
 have d:=q9h 0 p.of_.toNat (by omega)
 have e:=q9h 1 p.b.length (by omega)
 unfold pcB v7r
 simp only[List.length_append]
 omega
theorem GeoV.of_may {g:GeoV}(h:g.may=true):8≤g.w∧g.w≤512∧1≤g.s∧g.s≤32∧1≤g.k∧g.k≤16∧1≤g.m∧g.m≤8:=by
 unfold GeoV.may at h
 rw[k1v]at h
 exact V1 h.1
theorem x5x:∀ k:Nat,k≤255→∀ i,i<k→(stT k).1[i]?=some (Gf.pw i)∧(stT k).1[i+255]?=some (Gf.pw i)
 |0,_,i,h=>by omega
 |k+1,hk,i,hi=>by
  obtain⟨l1,_⟩:=z0m k
  rw[stT]
  by_cases e:i=k
  ·subst e
   refine⟨?_,k2y (by rw[List.length_set,l1];omega)⟩
   rw[k3z (by omega),k2y (by rw[l1];omega)]
  ·obtain⟨h1,h2⟩:=x5x k (by omega) i (by omega)
   refine⟨?_,?_⟩
   ·rw[k3z (by omega),k3z (by omega)];exact h1
   ·rw[k3z (by omega),k3z (by omega)];exact h2
theorem w9b:∀ k:Nat,k≤255→∀ i,i<k→(stT k).2[(Gf.pw i).toNat]?=some (i:Int)
 |0,_,i,h=>by omega
 |k+1,hk,i,hi=>by
  obtain⟨_,l2⟩:=z0m k
  rw[stT]
  by_cases e:i=k
  ·subst e
   exact k2y (by rw[l2];exact(Gf.pw i).toNat_lt)
  ·rw[k3z]
   ·exact w9b k (by omega) i (by omega)
   ·intro h
    have h:=UInt8.toNat_inj.mp h
    have h1:=Gf.lg_pw (show k<255 by omega)
    rw[h,Gf.lg_pw (by omega)]at h1
    exact e h1
theorem v7t {n:Nat}(h:n<510):fP[n]?=some (u8 (Gf.pw n)):=by
 obtain⟨l1,l2⟩:=z0m 255
 unfold fP
 rw[List.append_assoc,k0t (by rw[k1y,l1];exact h),k1q]
 by_cases e:n<255
 ·rw[(x5x 255 (k1w _) n e).1];rfl
 ·have:=(x5x 255 (k1w _) (n - 255) (by omega)).2
  rw[show n - 255+255=n by omega]at this
  rw[this]
  have h2:=Gf.pw_add (n - 255)
  rw[show n - 255+255=n by omega]at h2
  rw[h2];rfl
theorem x5y {a:UInt8}(h:a≠0):fP[510+a.toNat]?=some (.raw (.int .i64 (Gf.lg a))):=by
 obtain⟨l1,l2⟩:=z0m 255
 obtain⟨h1,h2⟩:=Gf.lg_ok h
 have ha:=a.toNat_lt
 unfold fP
 rw[List.append_assoc,k0s (by rw[k1y,l1];omega),k1y,l1,Nat.add_sub_cancel_left,k0t (by rw[k1y,l2];omega),k1q]
 have:=w9b 255 (k1w _) (Gf.lg a) h1
 rw[h2]at this
 rw[this];rfl
theorem u0i:fP[766]?=some (.raw (.bool true)):=by
 obtain⟨l1,l2⟩:=z0m 255
 unfold fP
 rw[k0s (by rw[k1z,k1y,k1y,l1,l2];omega),k1z,k1y,k1y,l1,l2];rfl
theorem u9z {cs:List PV}{x:PV}(h:cs[0]?=some x):cs.take 1=[x]∧1≤cs.length:=by
 cases cs with
 |nil=>simp at h
 |cons y r=>
  obtain rfl:y=x:=by simpa using h
  exact⟨rfl,by simp⟩
theorem Q0a {l:List PV}{n:Nat}{x:PV}(h:l[n]?=some x):(l.drop n)[0]?=some x:=by rw[List.getElem?_drop];exact h
theorem z3s {l:List PV}{n k m:Nat}{x:PV}(hm:m=n+k)(h:l[m]?=some x):(l.drop n).drop k=x :: l.drop (m+1):=by
 subst hm
 rw[List.drop_drop]
 obtain⟨h1,h2⟩:=List.getElem?_eq_some_iff.mp h
 rw[List.drop_eq_getElem_cons h1,h2]
abbrev q2s:AV:=.p (.box fP)
theorem x1t:AF Tryz.prog z7n [q2s] [] (v8 q2s []):=by
 have h:=u0i
 unfold q2s
 generalize fP=F at h ⊢
 refine v6 hT z7p rfl rfl z7q rfl ?_
 refine q8 hT ?_
 refine z8 (q8 hT ?_)
 obtain⟨e1,e2⟩:=u9z (Q0a h)
 conv=>whnf
 refine y3s (k1u e2) ?_
 rw[e1]
 refine z4 ?_
 refine z5 ?_
 refine q8 hT ?_
 refine y9 ?_
 exact z9 [] ⟨rfl,rfl⟩ rfl
theorem w6m (x:AV)(a b:UInt8):AF Tryz.prog y5s [x,.p (u8 a),.p (u8 b)] [] (v8 (.p (u8 (a ^^^ b))) []):=by
 refine AF.mono (R:=fun r H'=>∃ z:Int,z=((a ^^^ b).toNat:Int)∧r=.p (.raw (.int .u8 z))∧H'=[]) ?_ (by rintro r H' ⟨z,rfl,rfl,rfl⟩;exact⟨rfl,rfl⟩)
 refine v6 hT y5t rfl rfl y5u rfl ?_
 refine q8 hT ?_
 refine q8 hT ?_
 refine y9 ?_
 exact z9 [] ⟨_,w5y a b,rfl,rfl⟩ rfl
theorem u8z {a:UInt8}(h:(((a.toNat:Nat):Int)==0)=true):a=0:=by
 rw[beq_iff_eq]at h
 exact UInt8.toNat_inj.mp (by show a.toNat=0;omega)
theorem Q0b {a:UInt8}(h:(((a.toNat:Nat):Int)==0)=false):a≠0:=by
 rintro rfl
 exact absurd h (by decide)
theorem w6n (a b:UInt8):AF Tryz.prog y5v [q2s,.p (u8 a),.p (u8 b)] [] (v8 (.p (u8 (Gf.mul a b))) []):=by
 refine AF.mono (R:=fun r H'=>∃ z,z=Gf.mul a b∧r=.p (u8 z)∧H'=[]) ?_ (by rintro r H' ⟨z,rfl,rfl,rfl⟩;exact⟨rfl,rfl⟩)
 have wt:=x1t
 have hexp:=@v7t
 have hla:=@x5y a
 have hlb:=@x5y b
 unfold q2s at wt ⊢
 generalize fP=F at hexp hla hlb wt ⊢
 refine v6 hT y5w rfl rfl y5x rfl ?_
 refine q8 hT ?_
 refine z7 ⟨⟨34,[(0,.p (.box F)),(1,.p (u8 a)),(2,.p (u8 b))]⟩,[]⟩ (a≠0∧b≠0) (q8 hT ?_) ?_
 ·refine y4 (fun h=>?_) (fun h=>?_)
  ·refine z4 ?_
   refine q8 hT ?_
   refine y9 ?_
   exact z9 [] ⟨0,by rw[u8z h];exact(Gf.zero_mul b).symm,rfl,rfl⟩ rfl
  have ha:=Q0b h
  refine z4 (y4 (fun h=>?_) (fun h=>?_))
  ·refine q8 hT ?_
   refine y9 ?_
   exact z9 [] ⟨0,by rw[u8z h];exact(Gf.mul_zero a).symm,rfl,rfl⟩ rfl
  exact z5 ⟨q7 [] [0,1,2] rfl,ha,Q0b h⟩
 rintro⟨ha,hb⟩
 obtain⟨a1,a2⟩:=Gf.lg_ok ha
 obtain⟨b1,b2⟩:=Gf.lg_ok hb
 have a3:=a.toNat_lt
 have b3:=b.toNat_lt
 have hm:Gf.mul a b=Gf.pw (Gf.lg a+Gf.lg b):=by
  unfold Gf.mul
  rw[show (a==0)=false from beq_eq_false_iff_ne.mpr ha,show (b==0)=false from beq_eq_false_iff_ne.mpr hb];rfl
 have hla:=hla ha
 have hlb:=hlb hb
 have hex:=hexp (n:=Gf.lg a+Gf.lg b) (by omega)
 rw[← hm]at hex
 generalize Gf.mul a b=m at hex
 generalize Gf.lg a=la at hla hex a1
 generalize Gf.lg b=lb at hlb hex b1
 have hw:IntKind.i64.wrap ((la:Int)+(lb:Int))=((la+lb:Nat):Int):=by rw[y8 _ (by omega) (by omega)];omega
 refine q8 hT ?_
 refine x7 (w7 wt _ rfl rfl) ?_
 refine z8 ?_
 refine v7 [] [] hT y5 (by rfl) ?_
 refine⟨⟨by omega,by show ((a.toNat:Nat):Int)<256;omega⟩,?_⟩
 rw[z3s (n:=510) (k:=((a.toNat:Nat):Int).toNat*1) (m:=510+a.toNat) (by omega) hla]
 refine⟨⟨by omega,by show ((b.toNat:Nat):Int)<256;omega⟩,?_⟩
 rw[z3s (n:=510) (k:=((b.toNat:Nat):Int).toNat*1) (m:=510+b.toNat) (by omega) hlb]
 refine⟨⟨by rw[hw];omega,by rw[hw];show ((la+lb:Nat):Int)<510;omega⟩,?_⟩
 rw[z3s (n:=0) (k:=(IntKind.i64.wrap ((la:Int)+(lb:Int))).toNat*1) (m:=la+lb) (by rw[hw];omega) hex]
 refine y9 ?_
 exact z9 [] ⟨m,rfl,rfl,rfl⟩ rfl
theorem y7a (a:UInt8)(ha:a≠0):AF Tryz.prog y5m [q2s,.p (u8 a)] [] (v8 (.tup [.p (u8 (Gf.inv a)),i64 0]) []):=by
 have wd:AF Tryz.prog y5y [q2s,.p (u8 1),.p (u8 a)] [] (v8 (.tup [.p (u8 (Gf.inv a)),i64 0]) []):=by
  refine AF.mono (R:=fun r H'=>∃ z,z=Gf.inv a∧r=.tup [.p (u8 z),i64 0]∧H'=[]) ?_ (by rintro r H' ⟨z,rfl,rfl,rfl⟩;exact⟨rfl,rfl⟩)
  have wt:=x1t
  obtain⟨a1,a2⟩:=Gf.lg_ok ha
  have hla:=x5y ha
  have hl1:=x5y (a:=1) (by decide)
  rw[show Gf.lg 1=0 from Gf.lg_pw (n:=0) (by decide)]at hl1
  have hex:=v7t (n:=255 - Gf.lg a) (by omega)
  have hm:Gf.inv a=Gf.pw (255 - Gf.lg a):=rfl
  have a3:=a.toNat_lt
  rw[← hm]at hex
  generalize Gf.inv a=m at hex
  generalize Gf.lg a=la at hla hex a1
  unfold q2s at wt ⊢
  generalize fP=F at hla hl1 hex wt ⊢
  have hw:IntKind.i64.wrap (IntKind.i64.wrap (((0:Nat):Int)+255) - (la:Int))=((255 - la:Nat):Int):=by rw[y8 (((0:Nat):Int)+255) (by omega) (by omega),y8 _ (by omega) (by omega)];omega
  refine v6 hT y5z rfl rfl y6a rfl ?_
  refine q8 hT ?_
  refine z7 ⟨⟨36,[(0,.p (.box F)),(1,.p (u8 1)),(2,.p (u8 a))]⟩,[]⟩ True (z3 (q8 hT ?_)) (fun _=>?_)
  ·refine z4 (y4 (fun h=>?_) (fun h=>?_))
   ·exact absurd (u8z h) ha
   ·refine q8 hT ?_
    refine z4 ?_
    exact z5 ⟨q7 [] [0,1,2] rfl,trivial⟩
  refine q8 hT ?_
  refine x7 (w7 wt _ rfl rfl) ?_
  refine z8 ?_
  refine v7 [] [] hT y5 (by rfl) ?_
  refine⟨⟨by decide,by decide⟩,?_⟩
  rw[z3s (n:=510) (k:=(((1:UInt8).toNat:Nat):Int).toNat*1) (m:=510+1) (by decide) hl1]
  refine⟨⟨by omega,by show ((a.toNat:Nat):Int)<256;omega⟩,?_⟩
  rw[z3s (n:=510) (k:=((a.toNat:Nat):Int).toNat*1) (m:=510+a.toNat) (by omega) hla]
  refine⟨⟨by rw[hw];omega,by rw[hw];show ((255 - la:Nat):Int)<510;omega⟩,?_⟩
  rw[z3s (n:=0) (k:=(IntKind.i64.wrap (IntKind.i64.wrap (((0:Nat):Int)+255) - (la:Int))).toNat*1) (m:=255 - la) (by rw[hw];omega) hex]
  refine y9 ?_
  exact z9 [] ⟨m,rfl,rfl,rfl⟩ rfl
 generalize Gf.inv a=m at wd ⊢
 refine v6 hT y5n rfl rfl y5p rfl ?_
 refine q8 hT ?_
 refine q8 hT ?_
 refine x7 (w7 wd _ rfl rfl) ?_
 refine y9 ?_
 exact z9 [] ⟨rfl,rfl⟩ rfl
end Go.Proofs.YtinfbclgkghgaaaGreat.AL
namespace Go.Proofs.YtinfbclgkghgaaaGreat.AL
open Go Go.RowKit
theorem W6 {m:Nat}{s:St}(b:Nat){t:TypeId}{xs:List (List PV)}(ps:List PV)(hb:s.H[b]?=some (.row t 1 xs))(hx:xs=ps.map fun p=>[p])(hne:ps≠[]):Wk m s ⟨s.fr,s.H.set b (.cells t (ps.map .p))⟩:=fun N w I ι a hs hm=>by
 subst hx
 have hlive:live s.H b:=⟨_,hb,rfl⟩
 have hlv:∀ c,live (s.H.set b (.cells t (ps.map .p))) c→live s.H c:=fun c hc=>q1r hc hlive
 have hsim:SimH w I ι (s.H.set b (.cells t (ps.map .p))):=by
  refine⟨fun c k hc=>?_,fun c c' B hc hc'=>hs.H.inj c c' B (hlv c hc) (hlv c' hc'),hs.H.Ilt,fun c hc=>hs.H.dom c (by simpa using hc),hs.H.rng⟩
  by_cases e:c=b
  ·subst e
   rw[k2y (V7 hlive)]at hc
   obtain rfl:=k0y hc
   rcases hs.H.blk c _ hb with ⟨g1,g2⟩|⟨B,cs,g1,g2,g3,g4,g5,g6⟩
   ·exact absurd (List.map_eq_nil_iff.mp g1) hne
   ·refine⟨B,cs,g1,g2,g3,by simpa using g4,fun i u hu=>?_⟩
    rw[k1q]at hu
    cases hp:ps[i]? with
    |none=>rw[hp]at hu;cases hu
    |some p=>
     rw[hp]at hu
     obtain rfl:=k0y hu
     have:=(g6 i [p] (by rw[k1q,hp];rfl)).2 0 p rfl
     rw[Nat.mul_one,Nat.add_zero]at this
     exact .p this
  ·rw[k3z (by omega)]at hc
   exact hs.H.blk c k hc
 have hx:Ex m w I ι s.H w I ι (s.H.set b (.cells t (ps.map .p))):=⟨⟨rfl,rfl,rfl,k1w _,Shape.refl w,fun _ h=>h,fun _ _ _=>rfl,fun _ h=>.inl h,fun c B hc h=>.inr ⟨c,hlv c hc,h⟩⟩,fun _ _=>rfl,by simpa using hm⟩
 exact⟨I,ι,hs.turn ⟨hs.fr.1,hs.fr.2⟩ hsim hx,hx⟩
theorem U3 {m:Nat}{s:St}(b:Nat){t:TypeId}{l:List AV}(ps:List PV)(hb:s.H[b]?=some (.cells t l))(hx:l=ps.map .p)(hl:ps.length≤140737488355328):Wk m s ⟨s.fr,s.H.set b (.row t 1 (ps.map fun p=>[p]))⟩:=fun N w I ι a hs hm=>by
 subst hx
 have hlive:live s.H b:=⟨_,hb,rfl⟩
 have hlv:∀ c,live (s.H.set b (.row t 1 (ps.map fun p=>[p]))) c→live s.H c:=fun c hc=>q1r hc hlive
 have hsim:SimH w I ι (s.H.set b (.row t 1 (ps.map fun p=>[p]))):=by
  refine⟨fun c k hc=>?_,fun c c' B hc hc'=>hs.H.inj c c' B (hlv c hc) (hlv c' hc'),hs.H.Ilt,fun c hc=>hs.H.dom c (by simpa using hc),hs.H.rng⟩
  by_cases e:c=b
  ·subst e
   rw[k2y (V7 hlive)]at hc
   obtain rfl:=k0y hc
   obtain⟨B,cs,g1,g2,g3,g4,g5⟩:=hs.H.blk c _ hb
   refine .inr ⟨B,cs,g1,g2,g3,by simpa using g4,by simpa using hl,fun j e he=>?_⟩
   rw[k1q]at he
   cases hp:ps[j]? with
   |none=>rw[hp]at he;cases he
   |some p=>
    rw[hp]at he
    obtain rfl:=k0y he
    refine⟨rfl,fun i u hu=>?_⟩
    have h1:=g5 j (.p p) (by rw[k1q,hp];rfl)
    cases i with
    |zero=>
     obtain rfl:=k0y hu
     rw[Nat.mul_one,Nat.add_zero]
     cases h1 with
     |p h=>exact h
    |succ i=>simp at hu
  ·rw[k3z (by omega)]at hc
   exact hs.H.blk c k hc
 have hx:Ex m w I ι s.H w I ι (s.H.set b (.row t 1 (ps.map fun p=>[p]))):=⟨⟨rfl,rfl,rfl,k1w _,Shape.refl w,fun _ h=>h,fun _ _ _=>rfl,fun _ h=>.inl h,fun c B hc h=>.inr ⟨c,hlv c hc,h⟩⟩,fun _ _=>rfl,by simpa using hm⟩
 exact⟨I,ι,hs.turn ⟨hs.fr.1,hs.fr.2⟩ hsim hx,hx⟩
end Go.Proofs.YtinfbclgkghgaaaGreat.AL
namespace Go.Proofs.YtinfbclgkghgaaaGreat.AL
open Go Go.Proofs
def v9 (A:Nat→Nat→UInt8)(c i:Nat):z6:=(List.range c).map (A i)
def Z7 (A:Nat→Nat→UInt8)(c i k:Nat):z6:=(List.range k).map (A i)++List.replicate (c - k) 0
theorem Y0 (A:Nat→Nat→UInt8){c:Nat}(i:Nat){k:Nat}(h:k≤c):(Z7 A c i k).length=c:=by
 unfold Z7;rw[k1z,k1y,k3q,k2q];omega
theorem q6m {l:z6}{k:Nat}(h:k<l.length):∃ v,(bx l)[k]?=some [u8 v]:=⟨l[k],by rw[bx,k1q,k0x h];rfl⟩
theorem q0a (A:Nat→Nat→UInt8)(c i:Nat):Z7 A c i c=v9 A c i:=by unfold Z7 v9;simp
theorem z4p (A:Nat→Nat→UInt8)(c i:Nat):List.replicate (c:Int).toNat [PV.raw (.int .u8 0)]=bx (Z7 A c i 0):=by
 unfold Z7 bx;simp
theorem q0b (A:Nat→Nat→UInt8){c:Nat}(i:Nat){k:Nat}(h:k<c):(bx (Z7 A c i k)).set k [u8 (A i k)]=bx (Z7 A c i (k+1)):=by
 have e:Z7 A c i (k+1)=(Z7 A c i k).set k (A i k):=by
  unfold Z7
  rw[List.set_append_right _ _ (by rw[k1y,k3q];exact k1w _),k1y,k3q,Nat.sub_self,List.range_succ,List.map_append,List.append_assoc,show c - k=(c - (k+1))+1 by omega,List.replicate_succ]
  rfl
 rw[e]
 unfold bx
 rw[List.map_set]
theorem z2e (fn:FuncId)(c:Nat)(hc:c≤4096)(A:Nat→Nat→UInt8)(hA:∀ i k:Nat,i<1→k<c→AF Tryz.prog fn (i64 i :: i64 k :: []) [] (v8 (.p (u8 (A i k))) [])) :
 AF Tryz.prog q1k [i64 1,i64 c,.clo (.func fn) []] [] (v8 (.msl 0 1 0 1) [.cells z0 [.msl 1 1 0 c],.row z1 1 (bx (v9 A c 0))]):=by
 refine v6 hT q1m rfl rfl q1n rfl ?_
 refine q8 hT ?_
 refine z7 ⟨⟨43,[(1,i64 c),(2,.clo (.func fn) []),(7,.msl 0 1 0 1)]⟩,[.cells z0 [.p (.raw (.slice none 0 0))]]⟩ True (q9 hT ?_) (fun _=>?_)
 ·refine⟨⟨rfl,by decide,by decide,by decide⟩,?_⟩
  exact⟨Wk.trans (W6 0 [.raw (.slice none 0 0)] rfl rfl (by decide)) (q7 [0] [1,2,7] rfl),trivial⟩
 refine z7 ⟨⟨43,[(7,.msl 0 1 0 1)]⟩,[.cells z0 [.msl 1 1 0 c],.row z1 1 (bx (v9 A c 0))]⟩ True (q8 hT ?_) (fun _=>?_)
 ·refine z3 ?_
  refine y7 (fun n s=>(n=1∧s=⟨⟨43,[(1,i64 c),(2,.clo (.func fn) []),(7,.msl 0 1 0 1),(13,i64 1),(14,i64 0)]⟩,[.cells z0 [.p (.raw (.slice none 0 0))]]⟩)∨(n=0∧s=⟨⟨43,[(1,i64 c),(2,.clo (.func fn) []),(7,.msl 0 1 0 1),(13,i64 1),(14,i64 1)]⟩,[.cells z0 [.msl 1 1 0 c],.row z1 1 (bx (v9 A c 0))]⟩)) 1 ⟨⟨43,_⟩,_⟩ (q7 [0] [1,2,7,13,14] rfl) (.inl ⟨rfl,rfl⟩) ?_
  rintro n s (⟨rfl,rfl⟩|⟨rfl,rfl⟩)
  ·refine q8 hT ?_
   refine z8 (z4 ?_)
   refine z5 ?_
   refine z7 ⟨⟨43,[(1,i64 c),(2,.clo (.func fn) []),(7,.msl 0 1 0 1),(13,i64 1),(8,i64 0),(14,i64 0)]⟩,[.cells z0 [.msl 1 1 0 c],.row z1 1 (bx (v9 A c 0))]⟩ True (z3 ?_) (fun _=>?_)
   ·refine q8 hT ?_
    refine y6 (fun st=>∃ X,X=bx (Z7 A c 0 0)∧st=⟨⟨43,[(1,i64 c),(2,.clo (.func fn) []),(7,.msl 0 1 0 1),(13,i64 1),(8,i64 0),(14,i64 0)]⟩,[.cells z0 [.msl 1 1 0 c],.row z1 1 (X)]⟩) (q9 hT ?_) ?_
    ·refine⟨⟨rfl,by omega,by show (c:Int)*1≤_;omega,by omega⟩,?_⟩
     refine⟨by decide,?_⟩
     exact⟨_,q7 [0,1] [1,2,7,13,8,14] rfl,_,z4p A c 0,rfl⟩
    rintro _ ⟨X0,hX0,rfl⟩
    refine q8 hT ?_
    refine⟨by decide,?_⟩
    refine z3 ?_
    refine y7 (fun n s=>∃ (k:Nat) (j:Int),n+k=c∧j=k∧s=⟨⟨43,[(1,i64 c),(2,.clo (.func fn) []),(7,.msl 0 1 0 1),(13,i64 1),(8,i64 0),(14,i64 0),(26,i64 c),(27,i64 j)]⟩,[.cells z0 [.msl 1 1 0 c],.row z1 1 (bx (Z7 A c 0 k))]⟩) c ⟨⟨43,_⟩,_⟩ (q7 [0,1] [1,2,7,13,8,14,26,27] rfl) ⟨0,0,by omega,rfl,by rw[hX0];rfl⟩ ?_
    rintro n2 s ⟨k,j,hnk,hj,rfl⟩
    refine q8 hT ?_
    refine z8 (z4 (y4 (fun h=>?_) (fun h=>?_)))
    ·have h:=k0q (show decide (j<(c:Int))=true from h)
     refine z5 ?_
     have w:=hA 0 k (by decide) (by omega)
     rw[← hj]at w
     have w:AF Tryz.prog fn ([i64 0,i64 j]++[]) [] (v8 (.p (u8 (A 0 k))) []):=w
     have hset:=q0b A (c:=c) 0 (k:=k) (by omega)
     have hjk:0+j.toNat=k:=by omega
     have hlen:(bx (Z7 A c 0 k)).length=c:=by rw[w6,Y0 A 0 (by omega)]
     obtain⟨v,hv⟩:∃ v,(bx (Z7 A c 0 k))[0+j.toNat]?=some [u8 v]:=by rw[hjk];exact q6m (by rw[Y0 A 0 (by omega)];omega)
     refine y6 (fun st=>∃ X,X=bx (Z7 A c 0 (k+1))∧st=⟨⟨43,[(1,i64 c),(2,.clo (.func fn) []),(7,.msl 0 1 0 1),(13,i64 1),(8,i64 0),(14,i64 0),(26,i64 c),(27,i64 j)]⟩,[.cells z0 [.msl 1 1 0 c],.row z1 1 (X)]⟩) (z3 (q8 hT ?_)) ?_
     ·refine v7 [10] [] hT y5 (by rfl) ?_
      refine⟨by decide,?_⟩
      refine⟨_,w7 w _ rfl rfl,?_⟩
      refine⟨⟨by omega,by omega⟩,?_⟩
      refine w9 hv ?_
      repeat first|refine⟨rfl,?_⟩|refine⟨⟨_,w7 w _ rfl rfl,rfl⟩,?_⟩|refine⟨⟨by decide,rfl⟩,?_⟩|refine⟨⟨⟨by omega,by omega⟩,rfl⟩,?_⟩
      refine⟨_,q7 [0,1] [1,2,7,13,8,14,26,27] rfl,_,?_,rfl⟩
      show List.set (bx (Z7 A c 0 k)) (0+j.toNat) [u8 (A 0 k)]=_
      rw[hjk,hset]
     ·rintro _ ⟨X,rfl,rfl⟩
      refine q9 hT ?_
      exact⟨n2 - 1,by omega,_,q7 [0,1] [1,2,7,13,8,14,26,27] rfl,k+1,IntKind.i64.wrap (j+1),by omega,by rw[y8 _ (by omega) (by omega)];omega,rfl⟩
    ·have h:=k0z (show decide (j<(c:Int))=false from h)
     rw[show k=c by omega,q0a]
     refine x6 ?_
     exact⟨q7 [0,1] [1,2,7,13,8,14] rfl,trivial⟩
   ·refine q9 hT ?_
    exact⟨0,by decide,_,q7 [0,1] [1,2,7,13,14] rfl,(.inr ⟨rfl,rfl⟩)⟩
  ·refine q8 hT ?_
   refine z8 (z4 ?_)
   refine x6 ?_
   exact⟨q7 [0,1] [7] rfl,trivial⟩
 refine q8 hT ?_
 refine y9 ?_
 exact z9 [0,1] ⟨rfl,rfl⟩ rfl
theorem z2f (fn:FuncId)(c:Nat)(hc:c≤4096)(A:Nat→Nat→UInt8)(hA:∀ i k:Nat,i<2→k<c→AF Tryz.prog fn (i64 i :: i64 k :: []) [] (v8 (.p (u8 (A i k))) [])) :
 AF Tryz.prog q1k [i64 2,i64 c,.clo (.func fn) []] [] (v8 (.msl 0 1 0 2) [.cells z0 [.msl 1 1 0 c,.msl 2 1 0 c],.row z1 1 (bx (v9 A c 0)),.row z1 1 (bx (v9 A c 1))]):=by
 refine v6 hT q1m rfl rfl q1n rfl ?_
 refine q8 hT ?_
 refine z7 ⟨⟨43,[(1,i64 c),(2,.clo (.func fn) []),(7,.msl 0 1 0 2)]⟩,[.cells z0 [.p (.raw (.slice none 0 0)),.p (.raw (.slice none 0 0))]]⟩ True (q9 hT ?_) (fun _=>?_)
 ·refine⟨⟨rfl,by decide,by decide,by decide⟩,?_⟩
  exact⟨Wk.trans (W6 0 [.raw (.slice none 0 0),.raw (.slice none 0 0)] rfl rfl (by decide)) (q7 [0] [1,2,7] rfl),trivial⟩
 refine z7 ⟨⟨43,[(7,.msl 0 1 0 2)]⟩,[.cells z0 [.msl 1 1 0 c,.msl 2 1 0 c],.row z1 1 (bx (v9 A c 0)),.row z1 1 (bx (v9 A c 1))]⟩ True (q8 hT ?_) (fun _=>?_)
 ·refine z3 ?_
  refine y7 (fun n s=>(n=2∧s=⟨⟨43,[(1,i64 c),(2,.clo (.func fn) []),(7,.msl 0 1 0 2),(13,i64 2),(14,i64 0)]⟩,[.cells z0 [.p (.raw (.slice none 0 0)),.p (.raw (.slice none 0 0))]]⟩)∨(n=1∧s=⟨⟨43,[(1,i64 c),(2,.clo (.func fn) []),(7,.msl 0 1 0 2),(13,i64 2),(14,i64 1)]⟩,[.cells z0 [.msl 1 1 0 c,.p (.raw (.slice none 0 0))],.row z1 1 (bx (v9 A c 0))]⟩)∨(n=0∧s=⟨⟨43,[(1,i64 c),(2,.clo (.func fn) []),(7,.msl 0 1 0 2),(13,i64 2),(14,i64 2)]⟩,[.cells z0 [.msl 1 1 0 c,.msl 2 1 0 c],.row z1 1 (bx (v9 A c 0)),.row z1 1 (bx (v9 A c 1))]⟩)) 2 ⟨⟨43,_⟩,_⟩ (q7 [0] [1,2,7,13,14] rfl) (.inl ⟨rfl,rfl⟩) ?_
  rintro n s (⟨rfl,rfl⟩|⟨rfl,rfl⟩|⟨rfl,rfl⟩)
  ·refine q8 hT ?_
   refine z8 (z4 ?_)
   refine z5 ?_
   refine z7 ⟨⟨43,[(1,i64 c),(2,.clo (.func fn) []),(7,.msl 0 1 0 2),(13,i64 2),(8,i64 0),(14,i64 0)]⟩,[.cells z0 [.msl 1 1 0 c,.p (.raw (.slice none 0 0))],.row z1 1 (bx (v9 A c 0))]⟩ True (z3 ?_) (fun _=>?_)
   ·refine q8 hT ?_
    refine y6 (fun st=>∃ X,X=bx (Z7 A c 0 0)∧st=⟨⟨43,[(1,i64 c),(2,.clo (.func fn) []),(7,.msl 0 1 0 2),(13,i64 2),(8,i64 0),(14,i64 0)]⟩,[.cells z0 [.msl 1 1 0 c,.p (.raw (.slice none 0 0))],.row z1 1 (X)]⟩) (q9 hT ?_) ?_
    ·refine⟨⟨rfl,by omega,by show (c:Int)*1≤_;omega,by omega⟩,?_⟩
     refine⟨by decide,?_⟩
     exact⟨_,q7 [0,1] [1,2,7,13,8,14] rfl,_,z4p A c 0,rfl⟩
    rintro _ ⟨X0,hX0,rfl⟩
    refine q8 hT ?_
    refine⟨by decide,?_⟩
    refine z3 ?_
    refine y7 (fun n s=>∃ (k:Nat) (j:Int),n+k=c∧j=k∧s=⟨⟨43,[(1,i64 c),(2,.clo (.func fn) []),(7,.msl 0 1 0 2),(13,i64 2),(8,i64 0),(14,i64 0),(26,i64 c),(27,i64 j)]⟩,[.cells z0 [.msl 1 1 0 c,.p (.raw (.slice none 0 0))],.row z1 1 (bx (Z7 A c 0 k))]⟩) c ⟨⟨43,_⟩,_⟩ (q7 [0,1] [1,2,7,13,8,14,26,27] rfl) ⟨0,0,by omega,rfl,by rw[hX0];rfl⟩ ?_
    rintro n2 s ⟨k,j,hnk,hj,rfl⟩
    refine q8 hT ?_
    refine z8 (z4 (y4 (fun h=>?_) (fun h=>?_)))
    ·have h:=k0q (show decide (j<(c:Int))=true from h)
     refine z5 ?_
     have w:=hA 0 k (by decide) (by omega)
     rw[← hj]at w
     have w:AF Tryz.prog fn ([i64 0,i64 j]++[]) [] (v8 (.p (u8 (A 0 k))) []):=w
     have hset:=q0b A (c:=c) 0 (k:=k) (by omega)
     have hjk:0+j.toNat=k:=by omega
     have hlen:(bx (Z7 A c 0 k)).length=c:=by rw[w6,Y0 A 0 (by omega)]
     obtain⟨v,hv⟩:∃ v,(bx (Z7 A c 0 k))[0+j.toNat]?=some [u8 v]:=by rw[hjk];exact q6m (by rw[Y0 A 0 (by omega)];omega)
     refine y6 (fun st=>∃ X,X=bx (Z7 A c 0 (k+1))∧st=⟨⟨43,[(1,i64 c),(2,.clo (.func fn) []),(7,.msl 0 1 0 2),(13,i64 2),(8,i64 0),(14,i64 0),(26,i64 c),(27,i64 j)]⟩,[.cells z0 [.msl 1 1 0 c,.p (.raw (.slice none 0 0))],.row z1 1 (X)]⟩) (z3 (q8 hT ?_)) ?_
     ·refine v7 [10] [] hT y5 (by rfl) ?_
      refine⟨by decide,?_⟩
      refine⟨_,w7 w _ rfl rfl,?_⟩
      refine⟨⟨by omega,by omega⟩,?_⟩
      refine w9 hv ?_
      repeat first|refine⟨rfl,?_⟩|refine⟨⟨_,w7 w _ rfl rfl,rfl⟩,?_⟩|refine⟨⟨by decide,rfl⟩,?_⟩|refine⟨⟨⟨by omega,by omega⟩,rfl⟩,?_⟩
      refine⟨_,q7 [0,1] [1,2,7,13,8,14,26,27] rfl,_,?_,rfl⟩
      show List.set (bx (Z7 A c 0 k)) (0+j.toNat) [u8 (A 0 k)]=_
      rw[hjk,hset]
     ·rintro _ ⟨X,rfl,rfl⟩
      refine q9 hT ?_
      exact⟨n2 - 1,by omega,_,q7 [0,1] [1,2,7,13,8,14,26,27] rfl,k+1,IntKind.i64.wrap (j+1),by omega,by rw[y8 _ (by omega) (by omega)];omega,rfl⟩
    ·have h:=k0z (show decide (j<(c:Int))=false from h)
     rw[show k=c by omega,q0a]
     refine x6 ?_
     exact⟨q7 [0,1] [1,2,7,13,8,14] rfl,trivial⟩
   ·refine q9 hT ?_
    exact⟨1,by decide,_,q7 [0,1] [1,2,7,13,14] rfl,(.inr (.inl ⟨rfl,rfl⟩))⟩
  ·refine q8 hT ?_
   refine z8 (z4 ?_)
   refine z5 ?_
   refine z7 ⟨⟨43,[(1,i64 c),(2,.clo (.func fn) []),(7,.msl 0 1 0 2),(13,i64 2),(8,i64 1),(14,i64 1)]⟩,[.cells z0 [.msl 1 1 0 c,.msl 2 1 0 c],.row z1 1 (bx (v9 A c 0)),.row z1 1 (bx (v9 A c 1))]⟩ True (z3 ?_) (fun _=>?_)
   ·refine q8 hT ?_
    refine y6 (fun st=>∃ X,X=bx (Z7 A c 1 0)∧st=⟨⟨43,[(1,i64 c),(2,.clo (.func fn) []),(7,.msl 0 1 0 2),(13,i64 2),(8,i64 1),(14,i64 1)]⟩,[.cells z0 [.msl 1 1 0 c,.msl 2 1 0 c],.row z1 1 (bx (v9 A c 0)),.row z1 1 (X)]⟩) (q9 hT ?_) ?_
    ·refine⟨⟨rfl,by omega,by show (c:Int)*1≤_;omega,by omega⟩,?_⟩
     refine⟨by decide,?_⟩
     exact⟨_,q7 [0,1,2] [1,2,7,13,8,14] rfl,_,z4p A c 1,rfl⟩
    rintro _ ⟨X0,hX0,rfl⟩
    refine q8 hT ?_
    refine⟨by decide,?_⟩
    refine z3 ?_
    refine y7 (fun n s=>∃ (k:Nat) (j:Int),n+k=c∧j=k∧s=⟨⟨43,[(1,i64 c),(2,.clo (.func fn) []),(7,.msl 0 1 0 2),(13,i64 2),(8,i64 1),(14,i64 1),(26,i64 c),(27,i64 j)]⟩,[.cells z0 [.msl 1 1 0 c,.msl 2 1 0 c],.row z1 1 (bx (v9 A c 0)),.row z1 1 (bx (Z7 A c 1 k))]⟩) c ⟨⟨43,_⟩,_⟩ (q7 [0,1,2] [1,2,7,13,8,14,26,27] rfl) ⟨0,0,by omega,rfl,by rw[hX0];rfl⟩ ?_
    rintro n2 s ⟨k,j,hnk,hj,rfl⟩
    refine q8 hT ?_
    refine z8 (z4 (y4 (fun h=>?_) (fun h=>?_)))
    ·have h:=k0q (show decide (j<(c:Int))=true from h)
     refine z5 ?_
     have w:=hA 1 k (by decide) (by omega)
     rw[← hj]at w
     have w:AF Tryz.prog fn ([i64 1,i64 j]++[]) [] (v8 (.p (u8 (A 1 k))) []):=w
     have hset:=q0b A (c:=c) 1 (k:=k) (by omega)
     have hjk:0+j.toNat=k:=by omega
     have hlen:(bx (Z7 A c 1 k)).length=c:=by rw[w6,Y0 A 1 (by omega)]
     obtain⟨v,hv⟩:∃ v,(bx (Z7 A c 1 k))[0+j.toNat]?=some [u8 v]:=by rw[hjk];exact q6m (by rw[Y0 A 1 (by omega)];omega)
     refine y6 (fun st=>∃ X,X=bx (Z7 A c 1 (k+1))∧st=⟨⟨43,[(1,i64 c),(2,.clo (.func fn) []),(7,.msl 0 1 0 2),(13,i64 2),(8,i64 1),(14,i64 1),(26,i64 c),(27,i64 j)]⟩,[.cells z0 [.msl 1 1 0 c,.msl 2 1 0 c],.row z1 1 (bx (v9 A c 0)),.row z1 1 (X)]⟩) (z3 (q8 hT ?_)) ?_
     ·refine v7 [10] [] hT y5 (by rfl) ?_
      refine⟨by decide,?_⟩
      refine⟨_,w7 w _ rfl rfl,?_⟩
      refine⟨⟨by omega,by omega⟩,?_⟩
      refine w9 hv ?_
      repeat first|refine⟨rfl,?_⟩|refine⟨⟨_,w7 w _ rfl rfl,rfl⟩,?_⟩|refine⟨⟨by decide,rfl⟩,?_⟩|refine⟨⟨⟨by omega,by omega⟩,rfl⟩,?_⟩
      refine⟨_,q7 [0,1,2] [1,2,7,13,8,14,26,27] rfl,_,?_,rfl⟩
      show List.set (bx (Z7 A c 1 k)) (0+j.toNat) [u8 (A 1 k)]=_
      rw[hjk,hset]
     ·rintro _ ⟨X,rfl,rfl⟩
      refine q9 hT ?_
      exact⟨n2 - 1,by omega,_,q7 [0,1,2] [1,2,7,13,8,14,26,27] rfl,k+1,IntKind.i64.wrap (j+1),by omega,by rw[y8 _ (by omega) (by omega)];omega,rfl⟩
    ·have h:=k0z (show decide (j<(c:Int))=false from h)
     rw[show k=c by omega,q0a]
     refine x6 ?_
     exact⟨q7 [0,1,2] [1,2,7,13,8,14] rfl,trivial⟩
   ·refine q9 hT ?_
    exact⟨0,by decide,_,q7 [0,1,2] [1,2,7,13,14] rfl,(.inr (.inr ⟨rfl,rfl⟩))⟩
  ·refine q8 hT ?_
   refine z8 (z4 ?_)
   refine x6 ?_
   exact⟨q7 [0,1,2] [7] rfl,trivial⟩
 refine q8 hT ?_
 refine y9 ?_
 exact z9 [0,1,2] ⟨rfl,rfl⟩ rfl
theorem z2g (fn:FuncId)(c:Nat)(hc:c≤4096)(A:Nat→Nat→UInt8)(hA:∀ i k:Nat,i<3→k<c→AF Tryz.prog fn (i64 i :: i64 k :: []) [] (v8 (.p (u8 (A i k))) [])) :
 AF Tryz.prog q1k [i64 3,i64 c,.clo (.func fn) []] [] (v8 (.msl 0 1 0 3) [.cells z0 [.msl 1 1 0 c,.msl 2 1 0 c,.msl 3 1 0 c],.row z1 1 (bx (v9 A c 0)),.row z1 1 (bx (v9 A c 1)),.row z1 1 (bx (v9 A c 2))]):=by
 refine v6 hT q1m rfl rfl q1n rfl ?_
 refine q8 hT ?_
 refine z7 ⟨⟨43,[(1,i64 c),(2,.clo (.func fn) []),(7,.msl 0 1 0 3)]⟩,[.cells z0 [.p (.raw (.slice none 0 0)),.p (.raw (.slice none 0 0)),.p (.raw (.slice none 0 0))]]⟩ True (q9 hT ?_) (fun _=>?_)
 ·refine⟨⟨rfl,by decide,by decide,by decide⟩,?_⟩
  exact⟨Wk.trans (W6 0 [.raw (.slice none 0 0),.raw (.slice none 0 0),.raw (.slice none 0 0)] rfl rfl (by decide)) (q7 [0] [1,2,7] rfl),trivial⟩
 refine z7 ⟨⟨43,[(7,.msl 0 1 0 3)]⟩,[.cells z0 [.msl 1 1 0 c,.msl 2 1 0 c,.msl 3 1 0 c],.row z1 1 (bx (v9 A c 0)),.row z1 1 (bx (v9 A c 1)),.row z1 1 (bx (v9 A c 2))]⟩ True (q8 hT ?_) (fun _=>?_)
 ·refine z3 ?_
  refine y7 (fun n s=>(n=3∧s=⟨⟨43,[(1,i64 c),(2,.clo (.func fn) []),(7,.msl 0 1 0 3),(13,i64 3),(14,i64 0)]⟩,[.cells z0 [.p (.raw (.slice none 0 0)),.p (.raw (.slice none 0 0)),.p (.raw (.slice none 0 0))]]⟩)∨(n=2∧s=⟨⟨43,[(1,i64 c),(2,.clo (.func fn) []),(7,.msl 0 1 0 3),(13,i64 3),(14,i64 1)]⟩,[.cells z0 [.msl 1 1 0 c,.p (.raw (.slice none 0 0)),.p (.raw (.slice none 0 0))],.row z1 1 (bx (v9 A c 0))]⟩)∨(n=1∧s=⟨⟨43,[(1,i64 c),(2,.clo (.func fn) []),(7,.msl 0 1 0 3),(13,i64 3),(14,i64 2)]⟩,[.cells z0 [.msl 1 1 0 c,.msl 2 1 0 c,.p (.raw (.slice none 0 0))],.row z1 1 (bx (v9 A c 0)),.row z1 1 (bx (v9 A c 1))]⟩)∨(n=0∧s=⟨⟨43,[(1,i64 c),(2,.clo (.func fn) []),(7,.msl 0 1 0 3),(13,i64 3),(14,i64 3)]⟩,[.cells z0 [.msl 1 1 0 c,.msl 2 1 0 c,.msl 3 1 0 c],.row z1 1 (bx (v9 A c 0)),.row z1 1 (bx (v9 A c 1)),.row z1 1 (bx (v9 A c 2))]⟩)) 3 ⟨⟨43,_⟩,_⟩ (q7 [0] [1,2,7,13,14] rfl) (.inl ⟨rfl,rfl⟩) ?_
  rintro n s (⟨rfl,rfl⟩|⟨rfl,rfl⟩|⟨rfl,rfl⟩|⟨rfl,rfl⟩)
  ·refine q8 hT ?_
   refine z8 (z4 ?_)
   refine z5 ?_
   refine z7 ⟨⟨43,[(1,i64 c),(2,.clo (.func fn) []),(7,.msl 0 1 0 3),(13,i64 3),(8,i64 0),(14,i64 0)]⟩,[.cells z0 [.msl 1 1 0 c,.p (.raw (.slice none 0 0)),.p (.raw (.slice none 0 0))],.row z1 1 (bx (v9 A c 0))]⟩ True (z3 ?_) (fun _=>?_)
   ·refine q8 hT ?_
    refine y6 (fun st=>∃ X,X=bx (Z7 A c 0 0)∧st=⟨⟨43,[(1,i64 c),(2,.clo (.func fn) []),(7,.msl 0 1 0 3),(13,i64 3),(8,i64 0),(14,i64 0)]⟩,[.cells z0 [.msl 1 1 0 c,.p (.raw (.slice none 0 0)),.p (.raw (.slice none 0 0))],.row z1 1 (X)]⟩) (q9 hT ?_) ?_
    ·refine⟨⟨rfl,by omega,by show (c:Int)*1≤_;omega,by omega⟩,?_⟩
     refine⟨by decide,?_⟩
     exact⟨_,q7 [0,1] [1,2,7,13,8,14] rfl,_,z4p A c 0,rfl⟩
    rintro _ ⟨X0,hX0,rfl⟩
    refine q8 hT ?_
    refine⟨by decide,?_⟩
    refine z3 ?_
    refine y7 (fun n s=>∃ (k:Nat) (j:Int),n+k=c∧j=k∧s=⟨⟨43,[(1,i64 c),(2,.clo (.func fn) []),(7,.msl 0 1 0 3),(13,i64 3),(8,i64 0),(14,i64 0),(26,i64 c),(27,i64 j)]⟩,[.cells z0 [.msl 1 1 0 c,.p (.raw (.slice none 0 0)),.p (.raw (.slice none 0 0))],.row z1 1 (bx (Z7 A c 0 k))]⟩) c ⟨⟨43,_⟩,_⟩ (q7 [0,1] [1,2,7,13,8,14,26,27] rfl) ⟨0,0,by omega,rfl,by rw[hX0];rfl⟩ ?_
    rintro n2 s ⟨k,j,hnk,hj,rfl⟩
    refine q8 hT ?_
    refine z8 (z4 (y4 (fun h=>?_) (fun h=>?_)))
    ·have h:=k0q (show decide (j<(c:Int))=true from h)
     refine z5 ?_
     have w:=hA 0 k (by decide) (by omega)
     rw[← hj]at w
     have w:AF Tryz.prog fn ([i64 0,i64 j]++[]) [] (v8 (.p (u8 (A 0 k))) []):=w
     have hset:=q0b A (c:=c) 0 (k:=k) (by omega)
     have hjk:0+j.toNat=k:=by omega
     have hlen:(bx (Z7 A c 0 k)).length=c:=by rw[w6,Y0 A 0 (by omega)]
     obtain⟨v,hv⟩:∃ v,(bx (Z7 A c 0 k))[0+j.toNat]?=some [u8 v]:=by rw[hjk];exact q6m (by rw[Y0 A 0 (by omega)];omega)
     refine y6 (fun st=>∃ X,X=bx (Z7 A c 0 (k+1))∧st=⟨⟨43,[(1,i64 c),(2,.clo (.func fn) []),(7,.msl 0 1 0 3),(13,i64 3),(8,i64 0),(14,i64 0),(26,i64 c),(27,i64 j)]⟩,[.cells z0 [.msl 1 1 0 c,.p (.raw (.slice none 0 0)),.p (.raw (.slice none 0 0))],.row z1 1 (X)]⟩) (z3 (q8 hT ?_)) ?_
     ·refine v7 [10] [] hT y5 (by rfl) ?_
      refine⟨by decide,?_⟩
      refine⟨_,w7 w _ rfl rfl,?_⟩
      refine⟨⟨by omega,by omega⟩,?_⟩
      refine w9 hv ?_
      repeat first|refine⟨rfl,?_⟩|refine⟨⟨_,w7 w _ rfl rfl,rfl⟩,?_⟩|refine⟨⟨by decide,rfl⟩,?_⟩|refine⟨⟨⟨by omega,by omega⟩,rfl⟩,?_⟩
      refine⟨_,q7 [0,1] [1,2,7,13,8,14,26,27] rfl,_,?_,rfl⟩
      show List.set (bx (Z7 A c 0 k)) (0+j.toNat) [u8 (A 0 k)]=_
      rw[hjk,hset]
     ·rintro _ ⟨X,rfl,rfl⟩
      refine q9 hT ?_
      exact⟨n2 - 1,by omega,_,q7 [0,1] [1,2,7,13,8,14,26,27] rfl,k+1,IntKind.i64.wrap (j+1),by omega,by rw[y8 _ (by omega) (by omega)];omega,rfl⟩
    ·have h:=k0z (show decide (j<(c:Int))=false from h)
     rw[show k=c by omega,q0a]
     refine x6 ?_
     exact⟨q7 [0,1] [1,2,7,13,8,14] rfl,trivial⟩
   ·refine q9 hT ?_
    exact⟨2,by decide,_,q7 [0,1] [1,2,7,13,14] rfl,(.inr (.inl ⟨rfl,rfl⟩))⟩
  ·refine q8 hT ?_
   refine z8 (z4 ?_)
   refine z5 ?_
   refine z7 ⟨⟨43,[(1,i64 c),(2,.clo (.func fn) []),(7,.msl 0 1 0 3),(13,i64 3),(8,i64 1),(14,i64 1)]⟩,[.cells z0 [.msl 1 1 0 c,.msl 2 1 0 c,.p (.raw (.slice none 0 0))],.row z1 1 (bx (v9 A c 0)),.row z1 1 (bx (v9 A c 1))]⟩ True (z3 ?_) (fun _=>?_)
   ·refine q8 hT ?_
    refine y6 (fun st=>∃ X,X=bx (Z7 A c 1 0)∧st=⟨⟨43,[(1,i64 c),(2,.clo (.func fn) []),(7,.msl 0 1 0 3),(13,i64 3),(8,i64 1),(14,i64 1)]⟩,[.cells z0 [.msl 1 1 0 c,.msl 2 1 0 c,.p (.raw (.slice none 0 0))],.row z1 1 (bx (v9 A c 0)),.row z1 1 (X)]⟩) (q9 hT ?_) ?_
    ·refine⟨⟨rfl,by omega,by show (c:Int)*1≤_;omega,by omega⟩,?_⟩
     refine⟨by decide,?_⟩
     exact⟨_,q7 [0,1,2] [1,2,7,13,8,14] rfl,_,z4p A c 1,rfl⟩
    rintro _ ⟨X0,hX0,rfl⟩
    refine q8 hT ?_
    refine⟨by decide,?_⟩
    refine z3 ?_
    refine y7 (fun n s=>∃ (k:Nat) (j:Int),n+k=c∧j=k∧s=⟨⟨43,[(1,i64 c),(2,.clo (.func fn) []),(7,.msl 0 1 0 3),(13,i64 3),(8,i64 1),(14,i64 1),(26,i64 c),(27,i64 j)]⟩,[.cells z0 [.msl 1 1 0 c,.msl 2 1 0 c,.p (.raw (.slice none 0 0))],.row z1 1 (bx (v9 A c 0)),.row z1 1 (bx (Z7 A c 1 k))]⟩) c ⟨⟨43,_⟩,_⟩ (q7 [0,1,2] [1,2,7,13,8,14,26,27] rfl) ⟨0,0,by omega,rfl,by rw[hX0];rfl⟩ ?_
    rintro n2 s ⟨k,j,hnk,hj,rfl⟩
    refine q8 hT ?_
    refine z8 (z4 (y4 (fun h=>?_) (fun h=>?_)))
    ·have h:=k0q (show decide (j<(c:Int))=true from h)
     refine z5 ?_
     have w:=hA 1 k (by decide) (by omega)
     rw[← hj]at w
     have w:AF Tryz.prog fn ([i64 1,i64 j]++[]) [] (v8 (.p (u8 (A 1 k))) []):=w
     have hset:=q0b A (c:=c) 1 (k:=k) (by omega)
     have hjk:0+j.toNat=k:=by omega
     have hlen:(bx (Z7 A c 1 k)).length=c:=by rw[w6,Y0 A 1 (by omega)]
     obtain⟨v,hv⟩:∃ v,(bx (Z7 A c 1 k))[0+j.toNat]?=some [u8 v]:=by rw[hjk];exact q6m (by rw[Y0 A 1 (by omega)];omega)
     refine y6 (fun st=>∃ X,X=bx (Z7 A c 1 (k+1))∧st=⟨⟨43,[(1,i64 c),(2,.clo (.func fn) []),(7,.msl 0 1 0 3),(13,i64 3),(8,i64 1),(14,i64 1),(26,i64 c),(27,i64 j)]⟩,[.cells z0 [.msl 1 1 0 c,.msl 2 1 0 c,.p (.raw (.slice none 0 0))],.row z1 1 (bx (v9 A c 0)),.row z1 1 (X)]⟩) (z3 (q8 hT ?_)) ?_
     ·refine v7 [10] [] hT y5 (by rfl) ?_
      refine⟨by decide,?_⟩
      refine⟨_,w7 w _ rfl rfl,?_⟩
      refine⟨⟨by omega,by omega⟩,?_⟩
      refine w9 hv ?_
      repeat first|refine⟨rfl,?_⟩|refine⟨⟨_,w7 w _ rfl rfl,rfl⟩,?_⟩|refine⟨⟨by decide,rfl⟩,?_⟩|refine⟨⟨⟨by omega,by omega⟩,rfl⟩,?_⟩
      refine⟨_,q7 [0,1,2] [1,2,7,13,8,14,26,27] rfl,_,?_,rfl⟩
      show List.set (bx (Z7 A c 1 k)) (0+j.toNat) [u8 (A 1 k)]=_
      rw[hjk,hset]
     ·rintro _ ⟨X,rfl,rfl⟩
      refine q9 hT ?_
      exact⟨n2 - 1,by omega,_,q7 [0,1,2] [1,2,7,13,8,14,26,27] rfl,k+1,IntKind.i64.wrap (j+1),by omega,by rw[y8 _ (by omega) (by omega)];omega,rfl⟩
    ·have h:=k0z (show decide (j<(c:Int))=false from h)
     rw[show k=c by omega,q0a]
     refine x6 ?_
     exact⟨q7 [0,1,2] [1,2,7,13,8,14] rfl,trivial⟩
   ·refine q9 hT ?_
    exact⟨1,by decide,_,q7 [0,1,2] [1,2,7,13,14] rfl,(.inr (.inr (.inl ⟨rfl,rfl⟩)))⟩
  ·refine q8 hT ?_
   refine z8 (z4 ?_)
   refine z5 ?_
   refine z7 ⟨⟨43,[(1,i64 c),(2,.clo (.func fn) []),(7,.msl 0 1 0 3),(13,i64 3),(8,i64 2),(14,i64 2)]⟩,[.cells z0 [.msl 1 1 0 c,.msl 2 1 0 c,.msl 3 1 0 c],.row z1 1 (bx (v9 A c 0)),.row z1 1 (bx (v9 A c 1)),.row z1 1 (bx (v9 A c 2))]⟩ True (z3 ?_) (fun _=>?_)
   ·refine q8 hT ?_
    refine y6 (fun st=>∃ X,X=bx (Z7 A c 2 0)∧st=⟨⟨43,[(1,i64 c),(2,.clo (.func fn) []),(7,.msl 0 1 0 3),(13,i64 3),(8,i64 2),(14,i64 2)]⟩,[.cells z0 [.msl 1 1 0 c,.msl 2 1 0 c,.msl 3 1 0 c],.row z1 1 (bx (v9 A c 0)),.row z1 1 (bx (v9 A c 1)),.row z1 1 (X)]⟩) (q9 hT ?_) ?_
    ·refine⟨⟨rfl,by omega,by show (c:Int)*1≤_;omega,by omega⟩,?_⟩
     refine⟨by decide,?_⟩
     exact⟨_,q7 [0,1,2,3] [1,2,7,13,8,14] rfl,_,z4p A c 2,rfl⟩
    rintro _ ⟨X0,hX0,rfl⟩
    refine q8 hT ?_
    refine⟨by decide,?_⟩
    refine z3 ?_
    refine y7 (fun n s=>∃ (k:Nat) (j:Int),n+k=c∧j=k∧s=⟨⟨43,[(1,i64 c),(2,.clo (.func fn) []),(7,.msl 0 1 0 3),(13,i64 3),(8,i64 2),(14,i64 2),(26,i64 c),(27,i64 j)]⟩,[.cells z0 [.msl 1 1 0 c,.msl 2 1 0 c,.msl 3 1 0 c],.row z1 1 (bx (v9 A c 0)),.row z1 1 (bx (v9 A c 1)),.row z1 1 (bx (Z7 A c 2 k))]⟩) c ⟨⟨43,_⟩,_⟩ (q7 [0,1,2,3] [1,2,7,13,8,14,26,27] rfl) ⟨0,0,by omega,rfl,by rw[hX0];rfl⟩ ?_
    rintro n2 s ⟨k,j,hnk,hj,rfl⟩
    refine q8 hT ?_
    refine z8 (z4 (y4 (fun h=>?_) (fun h=>?_)))
    ·have h:=k0q (show decide (j<(c:Int))=true from h)
     refine z5 ?_
     have w:=hA 2 k (by decide) (by omega)
     rw[← hj]at w
     have w:AF Tryz.prog fn ([i64 2,i64 j]++[]) [] (v8 (.p (u8 (A 2 k))) []):=w
     have hset:=q0b A (c:=c) 2 (k:=k) (by omega)
     have hjk:0+j.toNat=k:=by omega
     have hlen:(bx (Z7 A c 2 k)).length=c:=by rw[w6,Y0 A 2 (by omega)]
     obtain⟨v,hv⟩:∃ v,(bx (Z7 A c 2 k))[0+j.toNat]?=some [u8 v]:=by rw[hjk];exact q6m (by rw[Y0 A 2 (by omega)];omega)
     refine y6 (fun st=>∃ X,X=bx (Z7 A c 2 (k+1))∧st=⟨⟨43,[(1,i64 c),(2,.clo (.func fn) []),(7,.msl 0 1 0 3),(13,i64 3),(8,i64 2),(14,i64 2),(26,i64 c),(27,i64 j)]⟩,[.cells z0 [.msl 1 1 0 c,.msl 2 1 0 c,.msl 3 1 0 c],.row z1 1 (bx (v9 A c 0)),.row z1 1 (bx (v9 A c 1)),.row z1 1 (X)]⟩) (z3 (q8 hT ?_)) ?_
     ·refine v7 [10] [] hT y5 (by rfl) ?_
      refine⟨by decide,?_⟩
      refine⟨_,w7 w _ rfl rfl,?_⟩
      refine⟨⟨by omega,by omega⟩,?_⟩
      refine w9 hv ?_
      repeat first|refine⟨rfl,?_⟩|refine⟨⟨_,w7 w _ rfl rfl,rfl⟩,?_⟩|refine⟨⟨by decide,rfl⟩,?_⟩|refine⟨⟨⟨by omega,by omega⟩,rfl⟩,?_⟩
      refine⟨_,q7 [0,1,2,3] [1,2,7,13,8,14,26,27] rfl,_,?_,rfl⟩
      show List.set (bx (Z7 A c 2 k)) (0+j.toNat) [u8 (A 2 k)]=_
      rw[hjk,hset]
     ·rintro _ ⟨X,rfl,rfl⟩
      refine q9 hT ?_
      exact⟨n2 - 1,by omega,_,q7 [0,1,2,3] [1,2,7,13,8,14,26,27] rfl,k+1,IntKind.i64.wrap (j+1),by omega,by rw[y8 _ (by omega) (by omega)];omega,rfl⟩
    ·have h:=k0z (show decide (j<(c:Int))=false from h)
     rw[show k=c by omega,q0a]
     refine x6 ?_
     exact⟨q7 [0,1,2,3] [1,2,7,13,8,14] rfl,trivial⟩
   ·refine q9 hT ?_
    exact⟨0,by decide,_,q7 [0,1,2,3] [1,2,7,13,14] rfl,(.inr (.inr (.inr ⟨rfl,rfl⟩)))⟩
  ·refine q8 hT ?_
   refine z8 (z4 ?_)
   refine x6 ?_
   exact⟨q7 [0,1,2,3] [7] rfl,trivial⟩
 refine q8 hT ?_
 refine y9 ?_
 exact z9 [0,1,2,3] ⟨rfl,rfl⟩ rfl
theorem z2h (fn:FuncId)(c:Nat)(hc:c≤4096)(A:Nat→Nat→UInt8)(hA:∀ i k:Nat,i<4→k<c→AF Tryz.prog fn (i64 i :: i64 k :: []) [] (v8 (.p (u8 (A i k))) [])) :
 AF Tryz.prog q1k [i64 4,i64 c,.clo (.func fn) []] [] (v8 (.msl 0 1 0 4) [.cells z0 [.msl 1 1 0 c,.msl 2 1 0 c,.msl 3 1 0 c,.msl 4 1 0 c],.row z1 1 (bx (v9 A c 0)),.row z1 1 (bx (v9 A c 1)),.row z1 1 (bx (v9 A c 2)),.row z1 1 (bx (v9 A c 3))]):=by
 refine v6 hT q1m rfl rfl q1n rfl ?_
 refine q8 hT ?_
 refine z7 ⟨⟨43,[(1,i64 c),(2,.clo (.func fn) []),(7,.msl 0 1 0 4)]⟩,[.cells z0 [.p (.raw (.slice none 0 0)),.p (.raw (.slice none 0 0)),.p (.raw (.slice none 0 0)),.p (.raw (.slice none 0 0))]]⟩ True (q9 hT ?_) (fun _=>?_)
 ·refine⟨⟨rfl,by decide,by decide,by decide⟩,?_⟩
  exact⟨Wk.trans (W6 0 [.raw (.slice none 0 0),.raw (.slice none 0 0),.raw (.slice none 0 0),.raw (.slice none 0 0)] rfl rfl (by decide)) (q7 [0] [1,2,7] rfl),trivial⟩
 refine z7 ⟨⟨43,[(7,.msl 0 1 0 4)]⟩,[.cells z0 [.msl 1 1 0 c,.msl 2 1 0 c,.msl 3 1 0 c,.msl 4 1 0 c],.row z1 1 (bx (v9 A c 0)),.row z1 1 (bx (v9 A c 1)),.row z1 1 (bx (v9 A c 2)),.row z1 1 (bx (v9 A c 3))]⟩ True (q8 hT ?_) (fun _=>?_)
 ·refine z3 ?_
  refine y7 (fun n s=>(n=4∧s=⟨⟨43,[(1,i64 c),(2,.clo (.func fn) []),(7,.msl 0 1 0 4),(13,i64 4),(14,i64 0)]⟩,[.cells z0 [.p (.raw (.slice none 0 0)),.p (.raw (.slice none 0 0)),.p (.raw (.slice none 0 0)),.p (.raw (.slice none 0 0))]]⟩)∨(n=3∧s=⟨⟨43,[(1,i64 c),(2,.clo (.func fn) []),(7,.msl 0 1 0 4),(13,i64 4),(14,i64 1)]⟩,[.cells z0 [.msl 1 1 0 c,.p (.raw (.slice none 0 0)),.p (.raw (.slice none 0 0)),.p (.raw (.slice none 0 0))],.row z1 1 (bx (v9 A c 0))]⟩)∨(n=2∧s=⟨⟨43,[(1,i64 c),(2,.clo (.func fn) []),(7,.msl 0 1 0 4),(13,i64 4),(14,i64 2)]⟩,[.cells z0 [.msl 1 1 0 c,.msl 2 1 0 c,.p (.raw (.slice none 0 0)),.p (.raw (.slice none 0 0))],.row z1 1 (bx (v9 A c 0)),.row z1 1 (bx (v9 A c 1))]⟩)∨(n=1∧s=⟨⟨43,[(1,i64 c),(2,.clo (.func fn) []),(7,.msl 0 1 0 4),(13,i64 4),(14,i64 3)]⟩,[.cells z0 [.msl 1 1 0 c,.msl 2 1 0 c,.msl 3 1 0 c,.p (.raw (.slice none 0 0))],.row z1 1 (bx (v9 A c 0)),.row z1 1 (bx (v9 A c 1)),.row z1 1 (bx (v9 A c 2))]⟩)∨(n=0∧s=⟨⟨43,[(1,i64 c),(2,.clo (.func fn) []),(7,.msl 0 1 0 4),(13,i64 4),(14,i64 4)]⟩,[.cells z0 [.msl 1 1 0 c,.msl 2 1 0 c,.msl 3 1 0 c,.msl 4 1 0 c],.row z1 1 (bx (v9 A c 0)),.row z1 1 (bx (v9 A c 1)),.row z1 1 (bx (v9 A c 2)),.row z1 1 (bx (v9 A c 3))]⟩)) 4 ⟨⟨43,_⟩,_⟩ (q7 [0] [1,2,7,13,14] rfl) (.inl ⟨rfl,rfl⟩) ?_
  rintro n s (⟨rfl,rfl⟩|⟨rfl,rfl⟩|⟨rfl,rfl⟩|⟨rfl,rfl⟩|⟨rfl,rfl⟩)
  ·refine q8 hT ?_
   refine z8 (z4 ?_)
   refine z5 ?_
   refine z7 ⟨⟨43,[(1,i64 c),(2,.clo (.func fn) []),(7,.msl 0 1 0 4),(13,i64 4),(8,i64 0),(14,i64 0)]⟩,[.cells z0 [.msl 1 1 0 c,.p (.raw (.slice none 0 0)),.p (.raw (.slice none 0 0)),.p (.raw (.slice none 0 0))],.row z1 1 (bx (v9 A c 0))]⟩ True (z3 ?_) (fun _=>?_)
   ·refine q8 hT ?_
    refine y6 (fun st=>∃ X,X=bx (Z7 A c 0 0)∧st=⟨⟨43,[(1,i64 c),(2,.clo (.func fn) []),(7,.msl 0 1 0 4),(13,i64 4),(8,i64 0),(14,i64 0)]⟩,[.cells z0 [.msl 1 1 0 c,.p (.raw (.slice none 0 0)),.p (.raw (.slice none 0 0)),.p (.raw (.slice none 0 0))],.row z1 1 (X)]⟩) (q9 hT ?_) ?_
    ·refine⟨⟨rfl,by omega,by show (c:Int)*1≤_;omega,by omega⟩,?_⟩
     refine⟨by decide,?_⟩
     exact⟨_,q7 [0,1] [1,2,7,13,8,14] rfl,_,z4p A c 0,rfl⟩
    rintro _ ⟨X0,hX0,rfl⟩
    refine q8 hT ?_
    refine⟨by decide,?_⟩
    refine z3 ?_
    refine y7 (fun n s=>∃ (k:Nat) (j:Int),n+k=c∧j=k∧s=⟨⟨43,[(1,i64 c),(2,.clo (.func fn) []),(7,.msl 0 1 0 4),(13,i64 4),(8,i64 0),(14,i64 0),(26,i64 c),(27,i64 j)]⟩,[.cells z0 [.msl 1 1 0 c,.p (.raw (.slice none 0 0)),.p (.raw (.slice none 0 0)),.p (.raw (.slice none 0 0))],.row z1 1 (bx (Z7 A c 0 k))]⟩) c ⟨⟨43,_⟩,_⟩ (q7 [0,1] [1,2,7,13,8,14,26,27] rfl) ⟨0,0,by omega,rfl,by rw[hX0];rfl⟩ ?_
    rintro n2 s ⟨k,j,hnk,hj,rfl⟩
    refine q8 hT ?_
    refine z8 (z4 (y4 (fun h=>?_) (fun h=>?_)))
    ·have h:=k0q (show decide (j<(c:Int))=true from h)
     refine z5 ?_
     have w:=hA 0 k (by decide) (by omega)
     rw[← hj]at w
     have w:AF Tryz.prog fn ([i64 0,i64 j]++[]) [] (v8 (.p (u8 (A 0 k))) []):=w
     have hset:=q0b A (c:=c) 0 (k:=k) (by omega)
     have hjk:0+j.toNat=k:=by omega
     have hlen:(bx (Z7 A c 0 k)).length=c:=by rw[w6,Y0 A 0 (by omega)]
     obtain⟨v,hv⟩:∃ v,(bx (Z7 A c 0 k))[0+j.toNat]?=some [u8 v]:=by rw[hjk];exact q6m (by rw[Y0 A 0 (by omega)];omega)
     refine y6 (fun st=>∃ X,X=bx (Z7 A c 0 (k+1))∧st=⟨⟨43,[(1,i64 c),(2,.clo (.func fn) []),(7,.msl 0 1 0 4),(13,i64 4),(8,i64 0),(14,i64 0),(26,i64 c),(27,i64 j)]⟩,[.cells z0 [.msl 1 1 0 c,.p (.raw (.slice none 0 0)),.p (.raw (.slice none 0 0)),.p (.raw (.slice none 0 0))],.row z1 1 (X)]⟩) (z3 (q8 hT ?_)) ?_
     ·refine v7 [10] [] hT y5 (by rfl) ?_
      refine⟨by decide,?_⟩
      refine⟨_,w7 w _ rfl rfl,?_⟩
      refine⟨⟨by omega,by omega⟩,?_⟩
      refine w9 hv ?_
      repeat first|refine⟨rfl,?_⟩|refine⟨⟨_,w7 w _ rfl rfl,rfl⟩,?_⟩|refine⟨⟨by decide,rfl⟩,?_⟩|refine⟨⟨⟨by omega,by omega⟩,rfl⟩,?_⟩
      refine⟨_,q7 [0,1] [1,2,7,13,8,14,26,27] rfl,_,?_,rfl⟩
      show List.set (bx (Z7 A c 0 k)) (0+j.toNat) [u8 (A 0 k)]=_
      rw[hjk,hset]
     ·rintro _ ⟨X,rfl,rfl⟩
      refine q9 hT ?_
      exact⟨n2 - 1,by omega,_,q7 [0,1] [1,2,7,13,8,14,26,27] rfl,k+1,IntKind.i64.wrap (j+1),by omega,by rw[y8 _ (by omega) (by omega)];omega,rfl⟩
    ·have h:=k0z (show decide (j<(c:Int))=false from h)
     rw[show k=c by omega,q0a]
     refine x6 ?_
     exact⟨q7 [0,1] [1,2,7,13,8,14] rfl,trivial⟩
   ·refine q9 hT ?_
    exact⟨3,by decide,_,q7 [0,1] [1,2,7,13,14] rfl,(.inr (.inl ⟨rfl,rfl⟩))⟩
  ·refine q8 hT ?_
   refine z8 (z4 ?_)
   refine z5 ?_
   refine z7 ⟨⟨43,[(1,i64 c),(2,.clo (.func fn) []),(7,.msl 0 1 0 4),(13,i64 4),(8,i64 1),(14,i64 1)]⟩,[.cells z0 [.msl 1 1 0 c,.msl 2 1 0 c,.p (.raw (.slice none 0 0)),.p (.raw (.slice none 0 0))],.row z1 1 (bx (v9 A c 0)),.row z1 1 (bx (v9 A c 1))]⟩ True (z3 ?_) (fun _=>?_)
   ·refine q8 hT ?_
    refine y6 (fun st=>∃ X,X=bx (Z7 A c 1 0)∧st=⟨⟨43,[(1,i64 c),(2,.clo (.func fn) []),(7,.msl 0 1 0 4),(13,i64 4),(8,i64 1),(14,i64 1)]⟩,[.cells z0 [.msl 1 1 0 c,.msl 2 1 0 c,.p (.raw (.slice none 0 0)),.p (.raw (.slice none 0 0))],.row z1 1 (bx (v9 A c 0)),.row z1 1 (X)]⟩) (q9 hT ?_) ?_
    ·refine⟨⟨rfl,by omega,by show (c:Int)*1≤_;omega,by omega⟩,?_⟩
     refine⟨by decide,?_⟩
     exact⟨_,q7 [0,1,2] [1,2,7,13,8,14] rfl,_,z4p A c 1,rfl⟩
    rintro _ ⟨X0,hX0,rfl⟩
    refine q8 hT ?_
    refine⟨by decide,?_⟩
    refine z3 ?_
    refine y7 (fun n s=>∃ (k:Nat) (j:Int),n+k=c∧j=k∧s=⟨⟨43,[(1,i64 c),(2,.clo (.func fn) []),(7,.msl 0 1 0 4),(13,i64 4),(8,i64 1),(14,i64 1),(26,i64 c),(27,i64 j)]⟩,[.cells z0 [.msl 1 1 0 c,.msl 2 1 0 c,.p (.raw (.slice none 0 0)),.p (.raw (.slice none 0 0))],.row z1 1 (bx (v9 A c 0)),.row z1 1 (bx (Z7 A c 1 k))]⟩) c ⟨⟨43,_⟩,_⟩ (q7 [0,1,2] [1,2,7,13,8,14,26,27] rfl) ⟨0,0,by omega,rfl,by rw[hX0];rfl⟩ ?_
    rintro n2 s ⟨k,j,hnk,hj,rfl⟩
    refine q8 hT ?_
    refine z8 (z4 (y4 (fun h=>?_) (fun h=>?_)))
    ·have h:=k0q (show decide (j<(c:Int))=true from h)
     refine z5 ?_
     have w:=hA 1 k (by decide) (by omega)
     rw[← hj]at w
     have w:AF Tryz.prog fn ([i64 1,i64 j]++[]) [] (v8 (.p (u8 (A 1 k))) []):=w
     have hset:=q0b A (c:=c) 1 (k:=k) (by omega)
     have hjk:0+j.toNat=k:=by omega
     have hlen:(bx (Z7 A c 1 k)).length=c:=by rw[w6,Y0 A 1 (by omega)]
     obtain⟨v,hv⟩:∃ v,(bx (Z7 A c 1 k))[0+j.toNat]?=some [u8 v]:=by rw[hjk];exact q6m (by rw[Y0 A 1 (by omega)];omega)
     refine y6 (fun st=>∃ X,X=bx (Z7 A c 1 (k+1))∧st=⟨⟨43,[(1,i64 c),(2,.clo (.func fn) []),(7,.msl 0 1 0 4),(13,i64 4),(8,i64 1),(14,i64 1),(26,i64 c),(27,i64 j)]⟩,[.cells z0 [.msl 1 1 0 c,.msl 2 1 0 c,.p (.raw (.slice none 0 0)),.p (.raw (.slice none 0 0))],.row z1 1 (bx (v9 A c 0)),.row z1 1 (X)]⟩) (z3 (q8 hT ?_)) ?_
     ·refine v7 [10] [] hT y5 (by rfl) ?_
      refine⟨by decide,?_⟩
      refine⟨_,w7 w _ rfl rfl,?_⟩
      refine⟨⟨by omega,by omega⟩,?_⟩
      refine w9 hv ?_
      repeat first|refine⟨rfl,?_⟩|refine⟨⟨_,w7 w _ rfl rfl,rfl⟩,?_⟩|refine⟨⟨by decide,rfl⟩,?_⟩|refine⟨⟨⟨by omega,by omega⟩,rfl⟩,?_⟩
      refine⟨_,q7 [0,1,2] [1,2,7,13,8,14,26,27] rfl,_,?_,rfl⟩
      show List.set (bx (Z7 A c 1 k)) (0+j.toNat) [u8 (A 1 k)]=_
      rw[hjk,hset]
     ·rintro _ ⟨X,rfl,rfl⟩
      refine q9 hT ?_
      exact⟨n2 - 1,by omega,_,q7 [0,1,2] [1,2,7,13,8,14,26,27] rfl,k+1,IntKind.i64.wrap (j+1),by omega,by rw[y8 _ (by omega) (by omega)];omega,rfl⟩
    ·have h:=k0z (show decide (j<(c:Int))=false from h)
     rw[show k=c by omega,q0a]
     refine x6 ?_
     exact⟨q7 [0,1,2] [1,2,7,13,8,14] rfl,trivial⟩
   ·refine q9 hT ?_
    exact⟨2,by decide,_,q7 [0,1,2] [1,2,7,13,14] rfl,(.inr (.inr (.inl ⟨rfl,rfl⟩)))⟩
  ·refine q8 hT ?_
   refine z8 (z4 ?_)
   refine z5 ?_
   refine z7 ⟨⟨43,[(1,i64 c),(2,.clo (.func fn) []),(7,.msl 0 1 0 4),(13,i64 4),(8,i64 2),(14,i64 2)]⟩,[.cells z0 [.msl 1 1 0 c,.msl 2 1 0 c,.msl 3 1 0 c,.p (.raw (.slice none 0 0))],.row z1 1 (bx (v9 A c 0)),.row z1 1 (bx (v9 A c 1)),.row z1 1 (bx (v9 A c 2))]⟩ True (z3 ?_) (fun _=>?_)
   ·refine q8 hT ?_
    refine y6 (fun st=>∃ X,X=bx (Z7 A c 2 0)∧st=⟨⟨43,[(1,i64 c),(2,.clo (.func fn) []),(7,.msl 0 1 0 4),(13,i64 4),(8,i64 2),(14,i64 2)]⟩,[.cells z0 [.msl 1 1 0 c,.msl 2 1 0 c,.msl 3 1 0 c,.p (.raw (.slice none 0 0))],.row z1 1 (bx (v9 A c 0)),.row z1 1 (bx (v9 A c 1)),.row z1 1 (X)]⟩) (q9 hT ?_) ?_
    ·refine⟨⟨rfl,by omega,by show (c:Int)*1≤_;omega,by omega⟩,?_⟩
     refine⟨by decide,?_⟩
     exact⟨_,q7 [0,1,2,3] [1,2,7,13,8,14] rfl,_,z4p A c 2,rfl⟩
    rintro _ ⟨X0,hX0,rfl⟩
    refine q8 hT ?_
    refine⟨by decide,?_⟩
    refine z3 ?_
    refine y7 (fun n s=>∃ (k:Nat) (j:Int),n+k=c∧j=k∧s=⟨⟨43,[(1,i64 c),(2,.clo (.func fn) []),(7,.msl 0 1 0 4),(13,i64 4),(8,i64 2),(14,i64 2),(26,i64 c),(27,i64 j)]⟩,[.cells z0 [.msl 1 1 0 c,.msl 2 1 0 c,.msl 3 1 0 c,.p (.raw (.slice none 0 0))],.row z1 1 (bx (v9 A c 0)),.row z1 1 (bx (v9 A c 1)),.row z1 1 (bx (Z7 A c 2 k))]⟩) c ⟨⟨43,_⟩,_⟩ (q7 [0,1,2,3] [1,2,7,13,8,14,26,27] rfl) ⟨0,0,by omega,rfl,by rw[hX0];rfl⟩ ?_
    rintro n2 s ⟨k,j,hnk,hj,rfl⟩
    refine q8 hT ?_
    refine z8 (z4 (y4 (fun h=>?_) (fun h=>?_)))
    ·have h:=k0q (show decide (j<(c:Int))=true from h)
     refine z5 ?_
     have w:=hA 2 k (by decide) (by omega)
     rw[← hj]at w
     have w:AF Tryz.prog fn ([i64 2,i64 j]++[]) [] (v8 (.p (u8 (A 2 k))) []):=w
     have hset:=q0b A (c:=c) 2 (k:=k) (by omega)
     have hjk:0+j.toNat=k:=by omega
     have hlen:(bx (Z7 A c 2 k)).length=c:=by rw[w6,Y0 A 2 (by omega)]
     obtain⟨v,hv⟩:∃ v,(bx (Z7 A c 2 k))[0+j.toNat]?=some [u8 v]:=by rw[hjk];exact q6m (by rw[Y0 A 2 (by omega)];omega)
     refine y6 (fun st=>∃ X,X=bx (Z7 A c 2 (k+1))∧st=⟨⟨43,[(1,i64 c),(2,.clo (.func fn) []),(7,.msl 0 1 0 4),(13,i64 4),(8,i64 2),(14,i64 2),(26,i64 c),(27,i64 j)]⟩,[.cells z0 [.msl 1 1 0 c,.msl 2 1 0 c,.msl 3 1 0 c,.p (.raw (.slice none 0 0))],.row z1 1 (bx (v9 A c 0)),.row z1 1 (bx (v9 A c 1)),.row z1 1 (X)]⟩) (z3 (q8 hT ?_)) ?_
     ·refine v7 [10] [] hT y5 (by rfl) ?_
      refine⟨by decide,?_⟩
      refine⟨_,w7 w _ rfl rfl,?_⟩
      refine⟨⟨by omega,by omega⟩,?_⟩
      refine w9 hv ?_
      repeat first|refine⟨rfl,?_⟩|refine⟨⟨_,w7 w _ rfl rfl,rfl⟩,?_⟩|refine⟨⟨by decide,rfl⟩,?_⟩|refine⟨⟨⟨by omega,by omega⟩,rfl⟩,?_⟩
      refine⟨_,q7 [0,1,2,3] [1,2,7,13,8,14,26,27] rfl,_,?_,rfl⟩
      show List.set (bx (Z7 A c 2 k)) (0+j.toNat) [u8 (A 2 k)]=_
      rw[hjk,hset]
     ·rintro _ ⟨X,rfl,rfl⟩
      refine q9 hT ?_
      exact⟨n2 - 1,by omega,_,q7 [0,1,2,3] [1,2,7,13,8,14,26,27] rfl,k+1,IntKind.i64.wrap (j+1),by omega,by rw[y8 _ (by omega) (by omega)];omega,rfl⟩
    ·have h:=k0z (show decide (j<(c:Int))=false from h)
     rw[show k=c by omega,q0a]
     refine x6 ?_
     exact⟨q7 [0,1,2,3] [1,2,7,13,8,14] rfl,trivial⟩
   ·refine q9 hT ?_
    exact⟨1,by decide,_,q7 [0,1,2,3] [1,2,7,13,14] rfl,(.inr (.inr (.inr (.inl ⟨rfl,rfl⟩))))⟩
  ·refine q8 hT ?_
   refine z8 (z4 ?_)
   refine z5 ?_
   refine z7 ⟨⟨43,[(1,i64 c),(2,.clo (.func fn) []),(7,.msl 0 1 0 4),(13,i64 4),(8,i64 3),(14,i64 3)]⟩,[.cells z0 [.msl 1 1 0 c,.msl 2 1 0 c,.msl 3 1 0 c,.msl 4 1 0 c],.row z1 1 (bx (v9 A c 0)),.row z1 1 (bx (v9 A c 1)),.row z1 1 (bx (v9 A c 2)),.row z1 1 (bx (v9 A c 3))]⟩ True (z3 ?_) (fun _=>?_)
   ·refine q8 hT ?_
    refine y6 (fun st=>∃ X,X=bx (Z7 A c 3 0)∧st=⟨⟨43,[(1,i64 c),(2,.clo (.func fn) []),(7,.msl 0 1 0 4),(13,i64 4),(8,i64 3),(14,i64 3)]⟩,[.cells z0 [.msl 1 1 0 c,.msl 2 1 0 c,.msl 3 1 0 c,.msl 4 1 0 c],.row z1 1 (bx (v9 A c 0)),.row z1 1 (bx (v9 A c 1)),.row z1 1 (bx (v9 A c 2)),.row z1 1 (X)]⟩) (q9 hT ?_) ?_
    ·refine⟨⟨rfl,by omega,by show (c:Int)*1≤_;omega,by omega⟩,?_⟩
     refine⟨by decide,?_⟩
     exact⟨_,q7 [0,1,2,3,4] [1,2,7,13,8,14] rfl,_,z4p A c 3,rfl⟩
    rintro _ ⟨X0,hX0,rfl⟩
    refine q8 hT ?_
    refine⟨by decide,?_⟩
    refine z3 ?_
    refine y7 (fun n s=>∃ (k:Nat) (j:Int),n+k=c∧j=k∧s=⟨⟨43,[(1,i64 c),(2,.clo (.func fn) []),(7,.msl 0 1 0 4),(13,i64 4),(8,i64 3),(14,i64 3),(26,i64 c),(27,i64 j)]⟩,[.cells z0 [.msl 1 1 0 c,.msl 2 1 0 c,.msl 3 1 0 c,.msl 4 1 0 c],.row z1 1 (bx (v9 A c 0)),.row z1 1 (bx (v9 A c 1)),.row z1 1 (bx (v9 A c 2)),.row z1 1 (bx (Z7 A c 3 k))]⟩) c ⟨⟨43,_⟩,_⟩ (q7 [0,1,2,3,4] [1,2,7,13,8,14,26,27] rfl) ⟨0,0,by omega,rfl,by rw[hX0];rfl⟩ ?_
    rintro n2 s ⟨k,j,hnk,hj,rfl⟩
    refine q8 hT ?_
    refine z8 (z4 (y4 (fun h=>?_) (fun h=>?_)))
    ·have h:=k0q (show decide (j<(c:Int))=true from h)
     refine z5 ?_
     have w:=hA 3 k (by decide) (by omega)
     rw[← hj]at w
     have w:AF Tryz.prog fn ([i64 3,i64 j]++[]) [] (v8 (.p (u8 (A 3 k))) []):=w
     have hset:=q0b A (c:=c) 3 (k:=k) (by omega)
     have hjk:0+j.toNat=k:=by omega
     have hlen:(bx (Z7 A c 3 k)).length=c:=by rw[w6,Y0 A 3 (by omega)]
     obtain⟨v,hv⟩:∃ v,(bx (Z7 A c 3 k))[0+j.toNat]?=some [u8 v]:=by rw[hjk];exact q6m (by rw[Y0 A 3 (by omega)];omega)
     refine y6 (fun st=>∃ X,X=bx (Z7 A c 3 (k+1))∧st=⟨⟨43,[(1,i64 c),(2,.clo (.func fn) []),(7,.msl 0 1 0 4),(13,i64 4),(8,i64 3),(14,i64 3),(26,i64 c),(27,i64 j)]⟩,[.cells z0 [.msl 1 1 0 c,.msl 2 1 0 c,.msl 3 1 0 c,.msl 4 1 0 c],.row z1 1 (bx (v9 A c 0)),.row z1 1 (bx (v9 A c 1)),.row z1 1 (bx (v9 A c 2)),.row z1 1 (X)]⟩) (z3 (q8 hT ?_)) ?_
     ·refine v7 [10] [] hT y5 (by rfl) ?_
      refine⟨by decide,?_⟩
      refine⟨_,w7 w _ rfl rfl,?_⟩
      refine⟨⟨by omega,by omega⟩,?_⟩
      refine w9 hv ?_
      repeat first|refine⟨rfl,?_⟩|refine⟨⟨_,w7 w _ rfl rfl,rfl⟩,?_⟩|refine⟨⟨by decide,rfl⟩,?_⟩|refine⟨⟨⟨by omega,by omega⟩,rfl⟩,?_⟩
      refine⟨_,q7 [0,1,2,3,4] [1,2,7,13,8,14,26,27] rfl,_,?_,rfl⟩
      show List.set (bx (Z7 A c 3 k)) (0+j.toNat) [u8 (A 3 k)]=_
      rw[hjk,hset]
     ·rintro _ ⟨X,rfl,rfl⟩
      refine q9 hT ?_
      exact⟨n2 - 1,by omega,_,q7 [0,1,2,3,4] [1,2,7,13,8,14,26,27] rfl,k+1,IntKind.i64.wrap (j+1),by omega,by rw[y8 _ (by omega) (by omega)];omega,rfl⟩
    ·have h:=k0z (show decide (j<(c:Int))=false from h)
     rw[show k=c by omega,q0a]
     refine x6 ?_
     exact⟨q7 [0,1,2,3,4] [1,2,7,13,8,14] rfl,trivial⟩
   ·refine q9 hT ?_
    exact⟨0,by decide,_,q7 [0,1,2,3,4] [1,2,7,13,14] rfl,(.inr (.inr (.inr (.inr ⟨rfl,rfl⟩))))⟩
  ·refine q8 hT ?_
   refine z8 (z4 ?_)
   refine x6 ?_
   exact⟨q7 [0,1,2,3,4] [7] rfl,trivial⟩
 refine q8 hT ?_
 refine y9 ?_
 exact z9 [0,1,2,3,4] ⟨rfl,rfl⟩ rfl
theorem x5z (fn:FuncId)(x y:PV)(c:Nat)(hc:c≤4096)(A:Nat→Nat→UInt8)(hA:∀ i k:Nat,i<1→k<c→AF Tryz.prog fn (i64 i :: i64 k :: [.p x,.p y]) [] (v8 (.p (u8 (A i k))) [])) :
 AF Tryz.prog q1k [i64 1,i64 c,.clo (.func fn) [.p x,.p y]] [] (v8 (.msl 0 1 0 1) [.cells z0 [.msl 1 1 0 c],.row z1 1 (bx (v9 A c 0))]):=by
 refine v6 hT q1m rfl rfl q1n rfl ?_
 refine q8 hT ?_
 refine z7 ⟨⟨43,[(1,i64 c),(2,.clo (.func fn) [.p x,.p y]),(7,.msl 0 1 0 1)]⟩,[.cells z0 [.p (.raw (.slice none 0 0))]]⟩ True (q9 hT ?_) (fun _=>?_)
 ·refine⟨⟨rfl,by decide,by decide,by decide⟩,?_⟩
  exact⟨Wk.trans (W6 0 [.raw (.slice none 0 0)] rfl rfl (by decide)) (q7 [0] [1,2,7] rfl),trivial⟩
 refine z7 ⟨⟨43,[(7,.msl 0 1 0 1)]⟩,[.cells z0 [.msl 1 1 0 c],.row z1 1 (bx (v9 A c 0))]⟩ True (q8 hT ?_) (fun _=>?_)
 ·refine z3 ?_
  refine y7 (fun n s=>(n=1∧s=⟨⟨43,[(1,i64 c),(2,.clo (.func fn) [.p x,.p y]),(7,.msl 0 1 0 1),(13,i64 1),(14,i64 0)]⟩,[.cells z0 [.p (.raw (.slice none 0 0))]]⟩)∨(n=0∧s=⟨⟨43,[(1,i64 c),(2,.clo (.func fn) [.p x,.p y]),(7,.msl 0 1 0 1),(13,i64 1),(14,i64 1)]⟩,[.cells z0 [.msl 1 1 0 c],.row z1 1 (bx (v9 A c 0))]⟩)) 1 ⟨⟨43,_⟩,_⟩ (q7 [0] [1,2,7,13,14] rfl) (.inl ⟨rfl,rfl⟩) ?_
  rintro n s (⟨rfl,rfl⟩|⟨rfl,rfl⟩)
  ·refine q8 hT ?_
   refine z8 (z4 ?_)
   refine z5 ?_
   refine z7 ⟨⟨43,[(1,i64 c),(2,.clo (.func fn) [.p x,.p y]),(7,.msl 0 1 0 1),(13,i64 1),(8,i64 0),(14,i64 0)]⟩,[.cells z0 [.msl 1 1 0 c],.row z1 1 (bx (v9 A c 0))]⟩ True (z3 ?_) (fun _=>?_)
   ·refine q8 hT ?_
    refine y6 (fun st=>∃ X,X=bx (Z7 A c 0 0)∧st=⟨⟨43,[(1,i64 c),(2,.clo (.func fn) [.p x,.p y]),(7,.msl 0 1 0 1),(13,i64 1),(8,i64 0),(14,i64 0)]⟩,[.cells z0 [.msl 1 1 0 c],.row z1 1 (X)]⟩) (q9 hT ?_) ?_
    ·refine⟨⟨rfl,by omega,by show (c:Int)*1≤_;omega,by omega⟩,?_⟩
     refine⟨by decide,?_⟩
     exact⟨_,q7 [0,1] [1,2,7,13,8,14] rfl,_,z4p A c 0,rfl⟩
    rintro _ ⟨X0,hX0,rfl⟩
    refine q8 hT ?_
    refine⟨by decide,?_⟩
    refine z3 ?_
    refine y7 (fun n s=>∃ (k:Nat) (j:Int),n+k=c∧j=k∧s=⟨⟨43,[(1,i64 c),(2,.clo (.func fn) [.p x,.p y]),(7,.msl 0 1 0 1),(13,i64 1),(8,i64 0),(14,i64 0),(26,i64 c),(27,i64 j)]⟩,[.cells z0 [.msl 1 1 0 c],.row z1 1 (bx (Z7 A c 0 k))]⟩) c ⟨⟨43,_⟩,_⟩ (q7 [0,1] [1,2,7,13,8,14,26,27] rfl) ⟨0,0,by omega,rfl,by rw[hX0];rfl⟩ ?_
    rintro n2 s ⟨k,j,hnk,hj,rfl⟩
    refine q8 hT ?_
    refine z8 (z4 (y4 (fun h=>?_) (fun h=>?_)))
    ·have h:=k0q (show decide (j<(c:Int))=true from h)
     refine z5 ?_
     have w:=hA 0 k (by decide) (by omega)
     rw[← hj]at w
     have w:AF Tryz.prog fn ([i64 0,i64 j]++[.p x,.p y]) [] (v8 (.p (u8 (A 0 k))) []):=w
     have hset:=q0b A (c:=c) 0 (k:=k) (by omega)
     have hjk:0+j.toNat=k:=by omega
     have hlen:(bx (Z7 A c 0 k)).length=c:=by rw[w6,Y0 A 0 (by omega)]
     obtain⟨v,hv⟩:∃ v,(bx (Z7 A c 0 k))[0+j.toNat]?=some [u8 v]:=by rw[hjk];exact q6m (by rw[Y0 A 0 (by omega)];omega)
     refine y6 (fun st=>∃ X,X=bx (Z7 A c 0 (k+1))∧st=⟨⟨43,[(1,i64 c),(2,.clo (.func fn) [.p x,.p y]),(7,.msl 0 1 0 1),(13,i64 1),(8,i64 0),(14,i64 0),(26,i64 c),(27,i64 j)]⟩,[.cells z0 [.msl 1 1 0 c],.row z1 1 (X)]⟩) (z3 (q8 hT ?_)) ?_
     ·refine v7 [10] [] hT y5 (by rfl) ?_
      refine⟨by decide,?_⟩
      refine⟨_,w7 w _ rfl rfl,?_⟩
      refine⟨⟨by omega,by omega⟩,?_⟩
      refine w9 hv ?_
      repeat first|refine⟨rfl,?_⟩|refine⟨⟨_,w7 w _ rfl rfl,rfl⟩,?_⟩|refine⟨⟨by decide,rfl⟩,?_⟩|refine⟨⟨⟨by omega,by omega⟩,rfl⟩,?_⟩
      refine⟨_,q7 [0,1] [1,2,7,13,8,14,26,27] rfl,_,?_,rfl⟩
      show List.set (bx (Z7 A c 0 k)) (0+j.toNat) [u8 (A 0 k)]=_
      rw[hjk,hset]
     ·rintro _ ⟨X,rfl,rfl⟩
      refine q9 hT ?_
      exact⟨n2 - 1,by omega,_,q7 [0,1] [1,2,7,13,8,14,26,27] rfl,k+1,IntKind.i64.wrap (j+1),by omega,by rw[y8 _ (by omega) (by omega)];omega,rfl⟩
    ·have h:=k0z (show decide (j<(c:Int))=false from h)
     rw[show k=c by omega,q0a]
     refine x6 ?_
     exact⟨q7 [0,1] [1,2,7,13,8,14] rfl,trivial⟩
   ·refine q9 hT ?_
    exact⟨0,by decide,_,q7 [0,1] [1,2,7,13,14] rfl,(.inr ⟨rfl,rfl⟩)⟩
  ·refine q8 hT ?_
   refine z8 (z4 ?_)
   refine x6 ?_
   exact⟨q7 [0,1] [7] rfl,trivial⟩
 refine q8 hT ?_
 refine y9 ?_
 exact z9 [0,1] ⟨rfl,rfl⟩ rfl
theorem x6a (fn:FuncId)(x y:PV)(c:Nat)(hc:c≤4096)(A:Nat→Nat→UInt8)(hA:∀ i k:Nat,i<2→k<c→AF Tryz.prog fn (i64 i :: i64 k :: [.p x,.p y]) [] (v8 (.p (u8 (A i k))) [])) :
 AF Tryz.prog q1k [i64 2,i64 c,.clo (.func fn) [.p x,.p y]] [] (v8 (.msl 0 1 0 2) [.cells z0 [.msl 1 1 0 c,.msl 2 1 0 c],.row z1 1 (bx (v9 A c 0)),.row z1 1 (bx (v9 A c 1))]):=by
 refine v6 hT q1m rfl rfl q1n rfl ?_
 refine q8 hT ?_
 refine z7 ⟨⟨43,[(1,i64 c),(2,.clo (.func fn) [.p x,.p y]),(7,.msl 0 1 0 2)]⟩,[.cells z0 [.p (.raw (.slice none 0 0)),.p (.raw (.slice none 0 0))]]⟩ True (q9 hT ?_) (fun _=>?_)
 ·refine⟨⟨rfl,by decide,by decide,by decide⟩,?_⟩
  exact⟨Wk.trans (W6 0 [.raw (.slice none 0 0),.raw (.slice none 0 0)] rfl rfl (by decide)) (q7 [0] [1,2,7] rfl),trivial⟩
 refine z7 ⟨⟨43,[(7,.msl 0 1 0 2)]⟩,[.cells z0 [.msl 1 1 0 c,.msl 2 1 0 c],.row z1 1 (bx (v9 A c 0)),.row z1 1 (bx (v9 A c 1))]⟩ True (q8 hT ?_) (fun _=>?_)
 ·refine z3 ?_
  refine y7 (fun n s=>(n=2∧s=⟨⟨43,[(1,i64 c),(2,.clo (.func fn) [.p x,.p y]),(7,.msl 0 1 0 2),(13,i64 2),(14,i64 0)]⟩,[.cells z0 [.p (.raw (.slice none 0 0)),.p (.raw (.slice none 0 0))]]⟩)∨(n=1∧s=⟨⟨43,[(1,i64 c),(2,.clo (.func fn) [.p x,.p y]),(7,.msl 0 1 0 2),(13,i64 2),(14,i64 1)]⟩,[.cells z0 [.msl 1 1 0 c,.p (.raw (.slice none 0 0))],.row z1 1 (bx (v9 A c 0))]⟩)∨(n=0∧s=⟨⟨43,[(1,i64 c),(2,.clo (.func fn) [.p x,.p y]),(7,.msl 0 1 0 2),(13,i64 2),(14,i64 2)]⟩,[.cells z0 [.msl 1 1 0 c,.msl 2 1 0 c],.row z1 1 (bx (v9 A c 0)),.row z1 1 (bx (v9 A c 1))]⟩)) 2 ⟨⟨43,_⟩,_⟩ (q7 [0] [1,2,7,13,14] rfl) (.inl ⟨rfl,rfl⟩) ?_
  rintro n s (⟨rfl,rfl⟩|⟨rfl,rfl⟩|⟨rfl,rfl⟩)
  ·refine q8 hT ?_
   refine z8 (z4 ?_)
   refine z5 ?_
   refine z7 ⟨⟨43,[(1,i64 c),(2,.clo (.func fn) [.p x,.p y]),(7,.msl 0 1 0 2),(13,i64 2),(8,i64 0),(14,i64 0)]⟩,[.cells z0 [.msl 1 1 0 c,.p (.raw (.slice none 0 0))],.row z1 1 (bx (v9 A c 0))]⟩ True (z3 ?_) (fun _=>?_)
   ·refine q8 hT ?_
    refine y6 (fun st=>∃ X,X=bx (Z7 A c 0 0)∧st=⟨⟨43,[(1,i64 c),(2,.clo (.func fn) [.p x,.p y]),(7,.msl 0 1 0 2),(13,i64 2),(8,i64 0),(14,i64 0)]⟩,[.cells z0 [.msl 1 1 0 c,.p (.raw (.slice none 0 0))],.row z1 1 (X)]⟩) (q9 hT ?_) ?_
    ·refine⟨⟨rfl,by omega,by show (c:Int)*1≤_;omega,by omega⟩,?_⟩
     refine⟨by decide,?_⟩
     exact⟨_,q7 [0,1] [1,2,7,13,8,14] rfl,_,z4p A c 0,rfl⟩
    rintro _ ⟨X0,hX0,rfl⟩
    refine q8 hT ?_
    refine⟨by decide,?_⟩
    refine z3 ?_
    refine y7 (fun n s=>∃ (k:Nat) (j:Int),n+k=c∧j=k∧s=⟨⟨43,[(1,i64 c),(2,.clo (.func fn) [.p x,.p y]),(7,.msl 0 1 0 2),(13,i64 2),(8,i64 0),(14,i64 0),(26,i64 c),(27,i64 j)]⟩,[.cells z0 [.msl 1 1 0 c,.p (.raw (.slice none 0 0))],.row z1 1 (bx (Z7 A c 0 k))]⟩) c ⟨⟨43,_⟩,_⟩ (q7 [0,1] [1,2,7,13,8,14,26,27] rfl) ⟨0,0,by omega,rfl,by rw[hX0];rfl⟩ ?_
    rintro n2 s ⟨k,j,hnk,hj,rfl⟩
    refine q8 hT ?_
    refine z8 (z4 (y4 (fun h=>?_) (fun h=>?_)))
    ·have h:=k0q (show decide (j<(c:Int))=true from h)
     refine z5 ?_
     have w:=hA 0 k (by decide) (by omega)
     rw[← hj]at w
     have w:AF Tryz.prog fn ([i64 0,i64 j]++[.p x,.p y]) [] (v8 (.p (u8 (A 0 k))) []):=w
     have hset:=q0b A (c:=c) 0 (k:=k) (by omega)
     have hjk:0+j.toNat=k:=by omega
     have hlen:(bx (Z7 A c 0 k)).length=c:=by rw[w6,Y0 A 0 (by omega)]
     obtain⟨v,hv⟩:∃ v,(bx (Z7 A c 0 k))[0+j.toNat]?=some [u8 v]:=by rw[hjk];exact q6m (by rw[Y0 A 0 (by omega)];omega)
     refine y6 (fun st=>∃ X,X=bx (Z7 A c 0 (k+1))∧st=⟨⟨43,[(1,i64 c),(2,.clo (.func fn) [.p x,.p y]),(7,.msl 0 1 0 2),(13,i64 2),(8,i64 0),(14,i64 0),(26,i64 c),(27,i64 j)]⟩,[.cells z0 [.msl 1 1 0 c,.p (.raw (.slice none 0 0))],.row z1 1 (X)]⟩) (z3 (q8 hT ?_)) ?_
     ·refine v7 [10] [] hT y5 (by rfl) ?_
      refine⟨by decide,?_⟩
      refine⟨_,w7 w _ rfl rfl,?_⟩
      refine⟨⟨by omega,by omega⟩,?_⟩
      refine w9 hv ?_
      repeat first|refine⟨rfl,?_⟩|refine⟨⟨_,w7 w _ rfl rfl,rfl⟩,?_⟩|refine⟨⟨by decide,rfl⟩,?_⟩|refine⟨⟨⟨by omega,by omega⟩,rfl⟩,?_⟩
      refine⟨_,q7 [0,1] [1,2,7,13,8,14,26,27] rfl,_,?_,rfl⟩
      show List.set (bx (Z7 A c 0 k)) (0+j.toNat) [u8 (A 0 k)]=_
      rw[hjk,hset]
     ·rintro _ ⟨X,rfl,rfl⟩
      refine q9 hT ?_
      exact⟨n2 - 1,by omega,_,q7 [0,1] [1,2,7,13,8,14,26,27] rfl,k+1,IntKind.i64.wrap (j+1),by omega,by rw[y8 _ (by omega) (by omega)];omega,rfl⟩
    ·have h:=k0z (show decide (j<(c:Int))=false from h)
     rw[show k=c by omega,q0a]
     refine x6 ?_
     exact⟨q7 [0,1] [1,2,7,13,8,14] rfl,trivial⟩
   ·refine q9 hT ?_
    exact⟨1,by decide,_,q7 [0,1] [1,2,7,13,14] rfl,(.inr (.inl ⟨rfl,rfl⟩))⟩
  ·refine q8 hT ?_
   refine z8 (z4 ?_)
   refine z5 ?_
   refine z7 ⟨⟨43,[(1,i64 c),(2,.clo (.func fn) [.p x,.p y]),(7,.msl 0 1 0 2),(13,i64 2),(8,i64 1),(14,i64 1)]⟩,[.cells z0 [.msl 1 1 0 c,.msl 2 1 0 c],.row z1 1 (bx (v9 A c 0)),.row z1 1 (bx (v9 A c 1))]⟩ True (z3 ?_) (fun _=>?_)
   ·refine q8 hT ?_
    refine y6 (fun st=>∃ X,X=bx (Z7 A c 1 0)∧st=⟨⟨43,[(1,i64 c),(2,.clo (.func fn) [.p x,.p y]),(7,.msl 0 1 0 2),(13,i64 2),(8,i64 1),(14,i64 1)]⟩,[.cells z0 [.msl 1 1 0 c,.msl 2 1 0 c],.row z1 1 (bx (v9 A c 0)),.row z1 1 (X)]⟩) (q9 hT ?_) ?_
    ·refine⟨⟨rfl,by omega,by show (c:Int)*1≤_;omega,by omega⟩,?_⟩
     refine⟨by decide,?_⟩
     exact⟨_,q7 [0,1,2] [1,2,7,13,8,14] rfl,_,z4p A c 1,rfl⟩
    rintro _ ⟨X0,hX0,rfl⟩
    refine q8 hT ?_
    refine⟨by decide,?_⟩
    refine z3 ?_
    refine y7 (fun n s=>∃ (k:Nat) (j:Int),n+k=c∧j=k∧s=⟨⟨43,[(1,i64 c),(2,.clo (.func fn) [.p x,.p y]),(7,.msl 0 1 0 2),(13,i64 2),(8,i64 1),(14,i64 1),(26,i64 c),(27,i64 j)]⟩,[.cells z0 [.msl 1 1 0 c,.msl 2 1 0 c],.row z1 1 (bx (v9 A c 0)),.row z1 1 (bx (Z7 A c 1 k))]⟩) c ⟨⟨43,_⟩,_⟩ (q7 [0,1,2] [1,2,7,13,8,14,26,27] rfl) ⟨0,0,by omega,rfl,by rw[hX0];rfl⟩ ?_
    rintro n2 s ⟨k,j,hnk,hj,rfl⟩
    refine q8 hT ?_
    refine z8 (z4 (y4 (fun h=>?_) (fun h=>?_)))
    ·have h:=k0q (show decide (j<(c:Int))=true from h)
     refine z5 ?_
     have w:=hA 1 k (by decide) (by omega)
     rw[← hj]at w
     have w:AF Tryz.prog fn ([i64 1,i64 j]++[.p x,.p y]) [] (v8 (.p (u8 (A 1 k))) []):=w
     have hset:=q0b A (c:=c) 1 (k:=k) (by omega)
     have hjk:0+j.toNat=k:=by omega
     have hlen:(bx (Z7 A c 1 k)).length=c:=by rw[w6,Y0 A 1 (by omega)]
     obtain⟨v,hv⟩:∃ v,(bx (Z7 A c 1 k))[0+j.toNat]?=some [u8 v]:=by rw[hjk];exact q6m (by rw[Y0 A 1 (by omega)];omega)
     refine y6 (fun st=>∃ X,X=bx (Z7 A c 1 (k+1))∧st=⟨⟨43,[(1,i64 c),(2,.clo (.func fn) [.p x,.p y]),(7,.msl 0 1 0 2),(13,i64 2),(8,i64 1),(14,i64 1),(26,i64 c),(27,i64 j)]⟩,[.cells z0 [.msl 1 1 0 c,.msl 2 1 0 c],.row z1 1 (bx (v9 A c 0)),.row z1 1 (X)]⟩) (z3 (q8 hT ?_)) ?_
     ·refine v7 [10] [] hT y5 (by rfl) ?_
      refine⟨by decide,?_⟩
      refine⟨_,w7 w _ rfl rfl,?_⟩
      refine⟨⟨by omega,by omega⟩,?_⟩
      refine w9 hv ?_
      repeat first|refine⟨rfl,?_⟩|refine⟨⟨_,w7 w _ rfl rfl,rfl⟩,?_⟩|refine⟨⟨by decide,rfl⟩,?_⟩|refine⟨⟨⟨by omega,by omega⟩,rfl⟩,?_⟩
      refine⟨_,q7 [0,1,2] [1,2,7,13,8,14,26,27] rfl,_,?_,rfl⟩
      show List.set (bx (Z7 A c 1 k)) (0+j.toNat) [u8 (A 1 k)]=_
      rw[hjk,hset]
     ·rintro _ ⟨X,rfl,rfl⟩
      refine q9 hT ?_
      exact⟨n2 - 1,by omega,_,q7 [0,1,2] [1,2,7,13,8,14,26,27] rfl,k+1,IntKind.i64.wrap (j+1),by omega,by rw[y8 _ (by omega) (by omega)];omega,rfl⟩
    ·have h:=k0z (show decide (j<(c:Int))=false from h)
     rw[show k=c by omega,q0a]
     refine x6 ?_
     exact⟨q7 [0,1,2] [1,2,7,13,8,14] rfl,trivial⟩
   ·refine q9 hT ?_
    exact⟨0,by decide,_,q7 [0,1,2] [1,2,7,13,14] rfl,(.inr (.inr ⟨rfl,rfl⟩))⟩
  ·refine q8 hT ?_
   refine z8 (z4 ?_)
   refine x6 ?_
   exact⟨q7 [0,1,2] [7] rfl,trivial⟩
 refine q8 hT ?_
 refine y9 ?_
 exact z9 [0,1,2] ⟨rfl,rfl⟩ rfl
theorem x6b (fn:FuncId)(x y:PV)(c:Nat)(hc:c≤4096)(A:Nat→Nat→UInt8)(hA:∀ i k:Nat,i<3→k<c→AF Tryz.prog fn (i64 i :: i64 k :: [.p x,.p y]) [] (v8 (.p (u8 (A i k))) [])) :
 AF Tryz.prog q1k [i64 3,i64 c,.clo (.func fn) [.p x,.p y]] [] (v8 (.msl 0 1 0 3) [.cells z0 [.msl 1 1 0 c,.msl 2 1 0 c,.msl 3 1 0 c],.row z1 1 (bx (v9 A c 0)),.row z1 1 (bx (v9 A c 1)),.row z1 1 (bx (v9 A c 2))]):=by
 refine v6 hT q1m rfl rfl q1n rfl ?_
 refine q8 hT ?_
 refine z7 ⟨⟨43,[(1,i64 c),(2,.clo (.func fn) [.p x,.p y]),(7,.msl 0 1 0 3)]⟩,[.cells z0 [.p (.raw (.slice none 0 0)),.p (.raw (.slice none 0 0)),.p (.raw (.slice none 0 0))]]⟩ True (q9 hT ?_) (fun _=>?_)
 ·refine⟨⟨rfl,by decide,by decide,by decide⟩,?_⟩
  exact⟨Wk.trans (W6 0 [.raw (.slice none 0 0),.raw (.slice none 0 0),.raw (.slice none 0 0)] rfl rfl (by decide)) (q7 [0] [1,2,7] rfl),trivial⟩
 refine z7 ⟨⟨43,[(7,.msl 0 1 0 3)]⟩,[.cells z0 [.msl 1 1 0 c,.msl 2 1 0 c,.msl 3 1 0 c],.row z1 1 (bx (v9 A c 0)),.row z1 1 (bx (v9 A c 1)),.row z1 1 (bx (v9 A c 2))]⟩ True (q8 hT ?_) (fun _=>?_)
 ·refine z3 ?_
  refine y7 (fun n s=>(n=3∧s=⟨⟨43,[(1,i64 c),(2,.clo (.func fn) [.p x,.p y]),(7,.msl 0 1 0 3),(13,i64 3),(14,i64 0)]⟩,[.cells z0 [.p (.raw (.slice none 0 0)),.p (.raw (.slice none 0 0)),.p (.raw (.slice none 0 0))]]⟩)∨(n=2∧s=⟨⟨43,[(1,i64 c),(2,.clo (.func fn) [.p x,.p y]),(7,.msl 0 1 0 3),(13,i64 3),(14,i64 1)]⟩,[.cells z0 [.msl 1 1 0 c,.p (.raw (.slice none 0 0)),.p (.raw (.slice none 0 0))],.row z1 1 (bx (v9 A c 0))]⟩)∨(n=1∧s=⟨⟨43,[(1,i64 c),(2,.clo (.func fn) [.p x,.p y]),(7,.msl 0 1 0 3),(13,i64 3),(14,i64 2)]⟩,[.cells z0 [.msl 1 1 0 c,.msl 2 1 0 c,.p (.raw (.slice none 0 0))],.row z1 1 (bx (v9 A c 0)),.row z1 1 (bx (v9 A c 1))]⟩)∨(n=0∧s=⟨⟨43,[(1,i64 c),(2,.clo (.func fn) [.p x,.p y]),(7,.msl 0 1 0 3),(13,i64 3),(14,i64 3)]⟩,[.cells z0 [.msl 1 1 0 c,.msl 2 1 0 c,.msl 3 1 0 c],.row z1 1 (bx (v9 A c 0)),.row z1 1 (bx (v9 A c 1)),.row z1 1 (bx (v9 A c 2))]⟩)) 3 ⟨⟨43,_⟩,_⟩ (q7 [0] [1,2,7,13,14] rfl) (.inl ⟨rfl,rfl⟩) ?_
  rintro n s (⟨rfl,rfl⟩|⟨rfl,rfl⟩|⟨rfl,rfl⟩|⟨rfl,rfl⟩)
  ·refine q8 hT ?_
   refine z8 (z4 ?_)
   refine z5 ?_
   refine z7 ⟨⟨43,[(1,i64 c),(2,.clo (.func fn) [.p x,.p y]),(7,.msl 0 1 0 3),(13,i64 3),(8,i64 0),(14,i64 0)]⟩,[.cells z0 [.msl 1 1 0 c,.p (.raw (.slice none 0 0)),.p (.raw (.slice none 0 0))],.row z1 1 (bx (v9 A c 0))]⟩ True (z3 ?_) (fun _=>?_)
   ·refine q8 hT ?_
    refine y6 (fun st=>∃ X,X=bx (Z7 A c 0 0)∧st=⟨⟨43,[(1,i64 c),(2,.clo (.func fn) [.p x,.p y]),(7,.msl 0 1 0 3),(13,i64 3),(8,i64 0),(14,i64 0)]⟩,[.cells z0 [.msl 1 1 0 c,.p (.raw (.slice none 0 0)),.p (.raw (.slice none 0 0))],.row z1 1 (X)]⟩) (q9 hT ?_) ?_
    ·refine⟨⟨rfl,by omega,by show (c:Int)*1≤_;omega,by omega⟩,?_⟩
     refine⟨by decide,?_⟩
     exact⟨_,q7 [0,1] [1,2,7,13,8,14] rfl,_,z4p A c 0,rfl⟩
    rintro _ ⟨X0,hX0,rfl⟩
    refine q8 hT ?_
    refine⟨by decide,?_⟩
    refine z3 ?_
    refine y7 (fun n s=>∃ (k:Nat) (j:Int),n+k=c∧j=k∧s=⟨⟨43,[(1,i64 c),(2,.clo (.func fn) [.p x,.p y]),(7,.msl 0 1 0 3),(13,i64 3),(8,i64 0),(14,i64 0),(26,i64 c),(27,i64 j)]⟩,[.cells z0 [.msl 1 1 0 c,.p (.raw (.slice none 0 0)),.p (.raw (.slice none 0 0))],.row z1 1 (bx (Z7 A c 0 k))]⟩) c ⟨⟨43,_⟩,_⟩ (q7 [0,1] [1,2,7,13,8,14,26,27] rfl) ⟨0,0,by omega,rfl,by rw[hX0];rfl⟩ ?_
    rintro n2 s ⟨k,j,hnk,hj,rfl⟩
    refine q8 hT ?_
    refine z8 (z4 (y4 (fun h=>?_) (fun h=>?_)))
    ·have h:=k0q (show decide (j<(c:Int))=true from h)
     refine z5 ?_
     have w:=hA 0 k (by decide) (by omega)
     rw[← hj]at w
     have w:AF Tryz.prog fn ([i64 0,i64 j]++[.p x,.p y]) [] (v8 (.p (u8 (A 0 k))) []):=w
     have hset:=q0b A (c:=c) 0 (k:=k) (by omega)
     have hjk:0+j.toNat=k:=by omega
     have hlen:(bx (Z7 A c 0 k)).length=c:=by rw[w6,Y0 A 0 (by omega)]
     obtain⟨v,hv⟩:∃ v,(bx (Z7 A c 0 k))[0+j.toNat]?=some [u8 v]:=by rw[hjk];exact q6m (by rw[Y0 A 0 (by omega)];omega)
     refine y6 (fun st=>∃ X,X=bx (Z7 A c 0 (k+1))∧st=⟨⟨43,[(1,i64 c),(2,.clo (.func fn) [.p x,.p y]),(7,.msl 0 1 0 3),(13,i64 3),(8,i64 0),(14,i64 0),(26,i64 c),(27,i64 j)]⟩,[.cells z0 [.msl 1 1 0 c,.p (.raw (.slice none 0 0)),.p (.raw (.slice none 0 0))],.row z1 1 (X)]⟩) (z3 (q8 hT ?_)) ?_
     ·refine v7 [10] [] hT y5 (by rfl) ?_
      refine⟨by decide,?_⟩
      refine⟨_,w7 w _ rfl rfl,?_⟩
      refine⟨⟨by omega,by omega⟩,?_⟩
      refine w9 hv ?_
      repeat first|refine⟨rfl,?_⟩|refine⟨⟨_,w7 w _ rfl rfl,rfl⟩,?_⟩|refine⟨⟨by decide,rfl⟩,?_⟩|refine⟨⟨⟨by omega,by omega⟩,rfl⟩,?_⟩
      refine⟨_,q7 [0,1] [1,2,7,13,8,14,26,27] rfl,_,?_,rfl⟩
      show List.set (bx (Z7 A c 0 k)) (0+j.toNat) [u8 (A 0 k)]=_
      rw[hjk,hset]
     ·rintro _ ⟨X,rfl,rfl⟩
      refine q9 hT ?_
      exact⟨n2 - 1,by omega,_,q7 [0,1] [1,2,7,13,8,14,26,27] rfl,k+1,IntKind.i64.wrap (j+1),by omega,by rw[y8 _ (by omega) (by omega)];omega,rfl⟩
    ·have h:=k0z (show decide (j<(c:Int))=false from h)
     rw[show k=c by omega,q0a]
     refine x6 ?_
     exact⟨q7 [0,1] [1,2,7,13,8,14] rfl,trivial⟩
   ·refine q9 hT ?_
    exact⟨2,by decide,_,q7 [0,1] [1,2,7,13,14] rfl,(.inr (.inl ⟨rfl,rfl⟩))⟩
  ·refine q8 hT ?_
   refine z8 (z4 ?_)
   refine z5 ?_
   refine z7 ⟨⟨43,[(1,i64 c),(2,.clo (.func fn) [.p x,.p y]),(7,.msl 0 1 0 3),(13,i64 3),(8,i64 1),(14,i64 1)]⟩,[.cells z0 [.msl 1 1 0 c,.msl 2 1 0 c,.p (.raw (.slice none 0 0))],.row z1 1 (bx (v9 A c 0)),.row z1 1 (bx (v9 A c 1))]⟩ True (z3 ?_) (fun _=>?_)
   ·refine q8 hT ?_
    refine y6 (fun st=>∃ X,X=bx (Z7 A c 1 0)∧st=⟨⟨43,[(1,i64 c),(2,.clo (.func fn) [.p x,.p y]),(7,.msl 0 1 0 3),(13,i64 3),(8,i64 1),(14,i64 1)]⟩,[.cells z0 [.msl 1 1 0 c,.msl 2 1 0 c,.p (.raw (.slice none 0 0))],.row z1 1 (bx (v9 A c 0)),.row z1 1 (X)]⟩) (q9 hT ?_) ?_
    ·refine⟨⟨rfl,by omega,by show (c:Int)*1≤_;omega,by omega⟩,?_⟩
     refine⟨by decide,?_⟩
     exact⟨_,q7 [0,1,2] [1,2,7,13,8,14] rfl,_,z4p A c 1,rfl⟩
    rintro _ ⟨X0,hX0,rfl⟩
    refine q8 hT ?_
    refine⟨by decide,?_⟩
    refine z3 ?_
    refine y7 (fun n s=>∃ (k:Nat) (j:Int),n+k=c∧j=k∧s=⟨⟨43,[(1,i64 c),(2,.clo (.func fn) [.p x,.p y]),(7,.msl 0 1 0 3),(13,i64 3),(8,i64 1),(14,i64 1),(26,i64 c),(27,i64 j)]⟩,[.cells z0 [.msl 1 1 0 c,.msl 2 1 0 c,.p (.raw (.slice none 0 0))],.row z1 1 (bx (v9 A c 0)),.row z1 1 (bx (Z7 A c 1 k))]⟩) c ⟨⟨43,_⟩,_⟩ (q7 [0,1,2] [1,2,7,13,8,14,26,27] rfl) ⟨0,0,by omega,rfl,by rw[hX0];rfl⟩ ?_
    rintro n2 s ⟨k,j,hnk,hj,rfl⟩
    refine q8 hT ?_
    refine z8 (z4 (y4 (fun h=>?_) (fun h=>?_)))
    ·have h:=k0q (show decide (j<(c:Int))=true from h)
     refine z5 ?_
     have w:=hA 1 k (by decide) (by omega)
     rw[← hj]at w
     have w:AF Tryz.prog fn ([i64 1,i64 j]++[.p x,.p y]) [] (v8 (.p (u8 (A 1 k))) []):=w
     have hset:=q0b A (c:=c) 1 (k:=k) (by omega)
     have hjk:0+j.toNat=k:=by omega
     have hlen:(bx (Z7 A c 1 k)).length=c:=by rw[w6,Y0 A 1 (by omega)]
     obtain⟨v,hv⟩:∃ v,(bx (Z7 A c 1 k))[0+j.toNat]?=some [u8 v]:=by rw[hjk];exact q6m (by rw[Y0 A 1 (by omega)];omega)
     refine y6 (fun st=>∃ X,X=bx (Z7 A c 1 (k+1))∧st=⟨⟨43,[(1,i64 c),(2,.clo (.func fn) [.p x,.p y]),(7,.msl 0 1 0 3),(13,i64 3),(8,i64 1),(14,i64 1),(26,i64 c),(27,i64 j)]⟩,[.cells z0 [.msl 1 1 0 c,.msl 2 1 0 c,.p (.raw (.slice none 0 0))],.row z1 1 (bx (v9 A c 0)),.row z1 1 (X)]⟩) (z3 (q8 hT ?_)) ?_
     ·refine v7 [10] [] hT y5 (by rfl) ?_
      refine⟨by decide,?_⟩
      refine⟨_,w7 w _ rfl rfl,?_⟩
      refine⟨⟨by omega,by omega⟩,?_⟩
      refine w9 hv ?_
      repeat first|refine⟨rfl,?_⟩|refine⟨⟨_,w7 w _ rfl rfl,rfl⟩,?_⟩|refine⟨⟨by decide,rfl⟩,?_⟩|refine⟨⟨⟨by omega,by omega⟩,rfl⟩,?_⟩
      refine⟨_,q7 [0,1,2] [1,2,7,13,8,14,26,27] rfl,_,?_,rfl⟩
      show List.set (bx (Z7 A c 1 k)) (0+j.toNat) [u8 (A 1 k)]=_
      rw[hjk,hset]
     ·rintro _ ⟨X,rfl,rfl⟩
      refine q9 hT ?_
      exact⟨n2 - 1,by omega,_,q7 [0,1,2] [1,2,7,13,8,14,26,27] rfl,k+1,IntKind.i64.wrap (j+1),by omega,by rw[y8 _ (by omega) (by omega)];omega,rfl⟩
    ·have h:=k0z (show decide (j<(c:Int))=false from h)
     rw[show k=c by omega,q0a]
     refine x6 ?_
     exact⟨q7 [0,1,2] [1,2,7,13,8,14] rfl,trivial⟩
   ·refine q9 hT ?_
    exact⟨1,by decide,_,q7 [0,1,2] [1,2,7,13,14] rfl,(.inr (.inr (.inl ⟨rfl,rfl⟩)))⟩
  ·refine q8 hT ?_
   refine z8 (z4 ?_)
   refine z5 ?_
   refine z7 ⟨⟨43,[(1,i64 c),(2,.clo (.func fn) [.p x,.p y]),(7,.msl 0 1 0 3),(13,i64 3),(8,i64 2),(14,i64 2)]⟩,[.cells z0 [.msl 1 1 0 c,.msl 2 1 0 c,.msl 3 1 0 c],.row z1 1 (bx (v9 A c 0)),.row z1 1 (bx (v9 A c 1)),.row z1 1 (bx (v9 A c 2))]⟩ True (z3 ?_) (fun _=>?_)
   ·refine q8 hT ?_
    refine y6 (fun st=>∃ X,X=bx (Z7 A c 2 0)∧st=⟨⟨43,[(1,i64 c),(2,.clo (.func fn) [.p x,.p y]),(7,.msl 0 1 0 3),(13,i64 3),(8,i64 2),(14,i64 2)]⟩,[.cells z0 [.msl 1 1 0 c,.msl 2 1 0 c,.msl 3 1 0 c],.row z1 1 (bx (v9 A c 0)),.row z1 1 (bx (v9 A c 1)),.row z1 1 (X)]⟩) (q9 hT ?_) ?_
    ·refine⟨⟨rfl,by omega,by show (c:Int)*1≤_;omega,by omega⟩,?_⟩
     refine⟨by decide,?_⟩
     exact⟨_,q7 [0,1,2,3] [1,2,7,13,8,14] rfl,_,z4p A c 2,rfl⟩
    rintro _ ⟨X0,hX0,rfl⟩
    refine q8 hT ?_
    refine⟨by decide,?_⟩
    refine z3 ?_
    refine y7 (fun n s=>∃ (k:Nat) (j:Int),n+k=c∧j=k∧s=⟨⟨43,[(1,i64 c),(2,.clo (.func fn) [.p x,.p y]),(7,.msl 0 1 0 3),(13,i64 3),(8,i64 2),(14,i64 2),(26,i64 c),(27,i64 j)]⟩,[.cells z0 [.msl 1 1 0 c,.msl 2 1 0 c,.msl 3 1 0 c],.row z1 1 (bx (v9 A c 0)),.row z1 1 (bx (v9 A c 1)),.row z1 1 (bx (Z7 A c 2 k))]⟩) c ⟨⟨43,_⟩,_⟩ (q7 [0,1,2,3] [1,2,7,13,8,14,26,27] rfl) ⟨0,0,by omega,rfl,by rw[hX0];rfl⟩ ?_
    rintro n2 s ⟨k,j,hnk,hj,rfl⟩
    refine q8 hT ?_
    refine z8 (z4 (y4 (fun h=>?_) (fun h=>?_)))
    ·have h:=k0q (show decide (j<(c:Int))=true from h)
     refine z5 ?_
     have w:=hA 2 k (by decide) (by omega)
     rw[← hj]at w
     have w:AF Tryz.prog fn ([i64 2,i64 j]++[.p x,.p y]) [] (v8 (.p (u8 (A 2 k))) []):=w
     have hset:=q0b A (c:=c) 2 (k:=k) (by omega)
     have hjk:0+j.toNat=k:=by omega
     have hlen:(bx (Z7 A c 2 k)).length=c:=by rw[w6,Y0 A 2 (by omega)]
     obtain⟨v,hv⟩:∃ v,(bx (Z7 A c 2 k))[0+j.toNat]?=some [u8 v]:=by rw[hjk];exact q6m (by rw[Y0 A 2 (by omega)];omega)
     refine y6 (fun st=>∃ X,X=bx (Z7 A c 2 (k+1))∧st=⟨⟨43,[(1,i64 c),(2,.clo (.func fn) [.p x,.p y]),(7,.msl 0 1 0 3),(13,i64 3),(8,i64 2),(14,i64 2),(26,i64 c),(27,i64 j)]⟩,[.cells z0 [.msl 1 1 0 c,.msl 2 1 0 c,.msl 3 1 0 c],.row z1 1 (bx (v9 A c 0)),.row z1 1 (bx (v9 A c 1)),.row z1 1 (X)]⟩) (z3 (q8 hT ?_)) ?_
     ·refine v7 [10] [] hT y5 (by rfl) ?_
      refine⟨by decide,?_⟩
      refine⟨_,w7 w _ rfl rfl,?_⟩
      refine⟨⟨by omega,by omega⟩,?_⟩
      refine w9 hv ?_
      repeat first|refine⟨rfl,?_⟩|refine⟨⟨_,w7 w _ rfl rfl,rfl⟩,?_⟩|refine⟨⟨by decide,rfl⟩,?_⟩|refine⟨⟨⟨by omega,by omega⟩,rfl⟩,?_⟩
      refine⟨_,q7 [0,1,2,3] [1,2,7,13,8,14,26,27] rfl,_,?_,rfl⟩
      show List.set (bx (Z7 A c 2 k)) (0+j.toNat) [u8 (A 2 k)]=_
      rw[hjk,hset]
     ·rintro _ ⟨X,rfl,rfl⟩
      refine q9 hT ?_
      exact⟨n2 - 1,by omega,_,q7 [0,1,2,3] [1,2,7,13,8,14,26,27] rfl,k+1,IntKind.i64.wrap (j+1),by omega,by rw[y8 _ (by omega) (by omega)];omega,rfl⟩
    ·have h:=k0z (show decide (j<(c:Int))=false from h)
     rw[show k=c by omega,q0a]
     refine x6 ?_
     exact⟨q7 [0,1,2,3] [1,2,7,13,8,14] rfl,trivial⟩
   ·refine q9 hT ?_
    exact⟨0,by decide,_,q7 [0,1,2,3] [1,2,7,13,14] rfl,(.inr (.inr (.inr ⟨rfl,rfl⟩)))⟩
  ·refine q8 hT ?_
   refine z8 (z4 ?_)
   refine x6 ?_
   exact⟨q7 [0,1,2,3] [7] rfl,trivial⟩
 refine q8 hT ?_
 refine y9 ?_
 exact z9 [0,1,2,3] ⟨rfl,rfl⟩ rfl
end Go.Proofs.YtinfbclgkghgaaaGreat.AL
