/- A part of the proof. -/
import Derived.Test.YtkjklhcfgbaceaaGreatScrubF
open Go.Proofs.Tryz renaming prog→k0q
open Option.some renaming inj→k0x
open List renaming getElem?_eq_getElem→k0w,getD_eq_getElem?_getD→k0v,getElem?_eq_some_iff→k0t,getElem?_map→k1z,length_append→k1y,length_map→k1x,getElem_mem→k1w,length_replicate→k2z,getElem?_set_self→k2y,mem_of_getElem?→k2x,take_add_one→k2t,getElem?_range→k2s,length_range→k3q,getElem?_set_ne→k3z
open Int renaming toNat_natCast→k0u,natCast_nonneg→k2w
open Nat renaming le_refl→k1v,mul_le_mul_right→k2v
set_option maxHeartbeats 1000000
set_option maxRecDepth 20000
namespace Go.Proofs.YtkjklhcfgbaceaaGreat.AL
open Go Go.Proofs
theorem x0y (l:x9)(hl:l.length≤1000000):AF k0q q0t [bA l] [] (Q9 (.msl 0 1 0 l.length) [.row x6 1 (bx l)]):=by
 have hb:=Z1 l
 show AF k0q q0t [.p (.sl 1 (bx l))] [] _
 rw[← hb]
 generalize bx l=xs at hb
 refine Q8 hT Tryz.func70 rfl rfl Tryz.ntmps70 rfl ?_
 refine y6 hT ?_
 refine u6 (y6 hT ?_)
 intro b hn
 refine y8 (u9 (fun h=>?_) (fun h=>?_))
 ·refine y6 hT ?_
  refine u5 ?_
  rw[hn h]
  exact x3r x6 1 ⟨rfl,rfl⟩
 ·refine x7 ?_
  refine y6 hT ?_
  refine⟨rfl,⟨?_,?_⟩,?_⟩
  ·show (0+xs.length)*1≤_;omega
  ·show 0+xs.length≤_;omega
  refine u5 ?_
  exact x8 [1] ⟨rfl,rfl⟩ rfl
def Flt.m (f:Flt):Nat→UInt8|0=>f.m0|1=>f.m1|2=>f.m2|_=>f.m3
def q8s (f:Flt)(s:x9):Nat→x9
 |0=>s
 |i+1=>match decide (f.off+i<(s.length:Int)) with
  |true=>(q8s f s i).set (f.off.toNat+i) ((q8s f s i).getD (f.off.toNat+i) 0 ^^^ f.m i)
  |false=>q8s f s i
theorem z0h (f:Flt)(s:x9):∀ i,(q8s f s i).length=s.length
 |0=>rfl
 |i+1=>by
  unfold q8s;split
  ·rw[List.length_set,z0h f s i]
  ·exact z0h f s i
theorem w2t (a b:UInt8):IntKind.u8.wrap ((BitVec.ofInt 8 (a.toNat:Int) ^^^ BitVec.ofInt 8 (b.toNat:Int)).toNat:Int)=((a ^^^ b).toNat:Int):=by
 have h1:BitVec.ofInt 8 (a.toNat:Int)=a.toBitVec:=by
  apply BitVec.eq_of_toNat_eq;simp
 have h2:BitVec.ofInt 8 (b.toNat:Int)=b.toBitVec:=by
  apply BitVec.eq_of_toNat_eq;simp
 rw[h1,h2]
 have h3:(a.toBitVec ^^^ b.toBitVec)=(a ^^^ b).toBitVec:=rfl
 rw[h3]
 have h4:(a ^^^ b).toBitVec.toNat<256:=(a ^^^ b).toBitVec.isLt
 show IntKind.u8.wrap (((a ^^^ b).toBitVec.toNat:Nat):Int)=(((a ^^^ b).toBitVec.toNat:Nat):Int)
 generalize (a ^^^ b).toBitVec.toNat=n at h4
 rw[IntKind.wrap_u8];omega
theorem y1z (f:Flt)(i:Nat)(h0:0≤f.off)(h1:f.off<256)(hi:i<4):IntKind.i64.wrap (f.off+((i:Nat):Int))=f.off+(i:Int)∧(IntKind.i64.wrap (f.off+((i:Nat):Int))).toNat=f.off.toNat+i:=by
 rw[Q0 _ (by omega) (by omega)];omega
theorem q9f (f:Flt)(s:x9)(i:Nat)(h0:0≤f.off)(h1:f.off<256)(hi:i<4)(h:f.off+(i:Int)<(s.length:Int)) :
 (bx (q8s f s i))[0+(IntKind.i64.wrap (f.off+((i:Nat):Int))).toNat]?=some [u8 ((q8s f s i).getD (f.off.toNat+i) 0)]:=by
 rw[Nat.zero_add,(y1z f i h0 h1 hi).2]
 have hl:f.off.toNat+i<(q8s f s i).length:=by rw[z0h];omega
 rw[bx,k1z,k0w hl,k0v,k0w hl];rfl
theorem y4f (f:Flt)(s:x9)(i:Nat)(h0:0≤f.off)(h1:f.off<256)(hi:i<4)(h:f.off+(i:Int)<(s.length:Int)) :
 bx (q8s f s (i+1))=(bx (q8s f s i)).set (0+(IntKind.i64.wrap (f.off+((i:Nat):Int))).toNat) [.raw (.int .u8 (IntKind.u8.wrap ((BitVec.ofInt 8 (((q8s f s i).getD (f.off.toNat+i) 0).toNat:Int) ^^^ BitVec.ofInt 8 ((f.m i).toNat:Int)).toNat:Int)))]:=by
 rw[Nat.zero_add,(y1z f i h0 h1 hi).2,w2t]
 conv=>lhs;unfold q8s
 rw[k1t h]
 show bx (List.set _ _ _)=_
 rw[bx,List.map_set];rfl
theorem x4c (f:Flt)(s:x9)(i:Nat)(h:¬ f.off+(i:Int)<(s.length:Int)):q8s f s (i+1)=q8s f s i:=by
 conv=>lhs;unfold q8s
 rw[k1s h]
theorem v4i (D:Dev)(f:Flt)(hw:D.waitsIn)(hn:D.waits.length≤1000000)(hh:D.has f.at_=true)(h0:0≤f.off)(h1:f.off<256)(hs:∀ c∈(D.settle f.at_).cells,c.s.length≤1000000) :
 AFm k0q 3 y3r [.ref 0 0,f.av] (Y3 D) (Q9 (.tup []) (Y3 ((D.settle f.at_).upd f.at_ fun c=>{ c with s:=q8s f c.s 4 }))):=by
 refine Z6 3 hT Tryz.func39 rfl rfl Tryz.ntmps39 rfl rfl ?_
 refine y6 hT ?_
 refine Z3 (Z4 3 f.pv rfl rfl) ?_
 refine y6 hT ?_
 refine Q1 (Z7 [0,1,2] (z4b D f.at_ hw hn) rfl rfl rfl) ?_
 have hlt:=q9e ((q4n D f.at_ f.at_).trans hh)
 obtain⟨c,hc,g1⟩:=q8f (D.settle f.at_) ((q4n D f.at_ f.at_).trans hh)
 have hcs:=hs _ (k2x hc)
 refine u6 ?_
 refine Z0 [9] [] hT u7 (by rfl) ?_
 refine⟨⟨hlt.2.1,hlt.2.2⟩,?_⟩
 refine Z2 g1 ?_
 refine⟨_,_,q1h (x0y c.s hcs) _ rfl,?_⟩
 refine u6 (y6 hT ?_)
 refine x3 ?_
 refine Q3 (fun n s=>∃ (i:Nat) (j:Int),n+i=4∧j=i∧s=⟨⟨54,[(0,.ref 0 0),(3,.p (.box f.pv)),(4,.msl 3 1 0 c.s.length),(22,.agg [.p (u8 f.m0),.p (u8 f.m1),.p (u8 f.m2),.p (u8 f.m3)]),(23,i64 j)]⟩,Y3 (D.settle f.at_)++[.row x6 1 (bx (q8s f c.s i))]⟩) 4 ⟨⟨54,_⟩,[_,_,_,_]⟩ (z8 [0,1,2,4] [0,3,4,22,23] rfl) ⟨0,_,rfl,rfl,rfl⟩ ?_
 rintro n s ⟨i,j,hni,rfl,rfl⟩
 refine y6 hT ?_
 refine u6 (y8 (u9 (fun h=>?_) (fun h=>?_)))
 ·have hi:i<4:=by
   have:=k0z (show decide ((i:Int)<4)=true from h)
   omega
  refine x7 ?_
  obtain rfl|rfl|rfl|rfl:i=0∨i=1∨i=2∨i=3:=by omega
  ·refine u6 (x3 (y6 hT ?_))
   refine⟨⟨by omega,by omega⟩,?_⟩
   have ha:=y1z f 0 h0 h1 (by omega)
   refine y6 hT ?_
   refine y8 (u9 (fun h3=>?_) (fun h3=>?_))
   ·have h3:f.off+((0:Nat):Int)<(c.s.length:Int):=by
     have:=k0z h3
     rw[ha.1]at this;exact this
    refine y7 hT ?_
    refine⟨⟨by rw[ha.1];omega,by rw[ha.1];exact h3⟩,?_⟩
    refine Z2 (q9f f c.s 0 h0 h1 (by omega) h3) ?_
    refine⟨⟨by rw[ha.1];omega,by rw[ha.1];exact h3⟩,?_⟩
    refine Z2 (q9f f c.s 0 h0 h1 (by omega) h3) ?_
    refine y7 hT ?_
    refine⟨n - 1,by omega,_,z8 [0,1,2,3] [0,3,4,22,23] rfl,0+1,IntKind.i64.wrap (((0:Nat):Int)+1),by omega,by decide,?_⟩
    refine congrArg (St.mk _) ?_
    rw[y4f f c.s 0 h0 h1 (by omega) h3]
    rfl
   ·have h3:¬ f.off+((0:Nat):Int)<(c.s.length:Int):=by
     have:=k0y h3
     rw[ha.1]at this;exact this
    refine x7 ?_
    refine y7 hT ?_
    refine⟨n - 1,by omega,_,z8 [0,1,2,3] [0,3,4,22,23] rfl,0+1,IntKind.i64.wrap (((0:Nat):Int)+1),by omega,by decide,?_⟩
    refine congrArg (St.mk _) ?_
    rw[x4c f c.s 0 h3]
    rfl
  ·refine u6 (x3 (y6 hT ?_))
   refine⟨⟨by omega,by omega⟩,?_⟩
   have ha:=y1z f 1 h0 h1 (by omega)
   refine y6 hT ?_
   refine y8 (u9 (fun h3=>?_) (fun h3=>?_))
   ·have h3:f.off+((1:Nat):Int)<(c.s.length:Int):=by
     have:=k0z h3
     rw[ha.1]at this;exact this
    refine y7 hT ?_
    refine⟨⟨by rw[ha.1];omega,by rw[ha.1];exact h3⟩,?_⟩
    refine Z2 (q9f f c.s 1 h0 h1 (by omega) h3) ?_
    refine⟨⟨by rw[ha.1];omega,by rw[ha.1];exact h3⟩,?_⟩
    refine Z2 (q9f f c.s 1 h0 h1 (by omega) h3) ?_
    refine y7 hT ?_
    refine⟨n - 1,by omega,_,z8 [0,1,2,3] [0,3,4,22,23] rfl,1+1,IntKind.i64.wrap (((1:Nat):Int)+1),by omega,by decide,?_⟩
    refine congrArg (St.mk _) ?_
    rw[y4f f c.s 1 h0 h1 (by omega) h3]
    rfl
   ·have h3:¬ f.off+((1:Nat):Int)<(c.s.length:Int):=by
     have:=k0y h3
     rw[ha.1]at this;exact this
    refine x7 ?_
    refine y7 hT ?_
    refine⟨n - 1,by omega,_,z8 [0,1,2,3] [0,3,4,22,23] rfl,1+1,IntKind.i64.wrap (((1:Nat):Int)+1),by omega,by decide,?_⟩
    refine congrArg (St.mk _) ?_
    rw[x4c f c.s 1 h3]
    rfl
  ·refine u6 (x3 (y6 hT ?_))
   refine⟨⟨by omega,by omega⟩,?_⟩
   have ha:=y1z f 2 h0 h1 (by omega)
   refine y6 hT ?_
   refine y8 (u9 (fun h3=>?_) (fun h3=>?_))
   ·have h3:f.off+((2:Nat):Int)<(c.s.length:Int):=by
     have:=k0z h3
     rw[ha.1]at this;exact this
    refine y7 hT ?_
    refine⟨⟨by rw[ha.1];omega,by rw[ha.1];exact h3⟩,?_⟩
    refine Z2 (q9f f c.s 2 h0 h1 (by omega) h3) ?_
    refine⟨⟨by rw[ha.1];omega,by rw[ha.1];exact h3⟩,?_⟩
    refine Z2 (q9f f c.s 2 h0 h1 (by omega) h3) ?_
    refine y7 hT ?_
    refine⟨n - 1,by omega,_,z8 [0,1,2,3] [0,3,4,22,23] rfl,2+1,IntKind.i64.wrap (((2:Nat):Int)+1),by omega,by decide,?_⟩
    refine congrArg (St.mk _) ?_
    rw[y4f f c.s 2 h0 h1 (by omega) h3]
    rfl
   ·have h3:¬ f.off+((2:Nat):Int)<(c.s.length:Int):=by
     have:=k0y h3
     rw[ha.1]at this;exact this
    refine x7 ?_
    refine y7 hT ?_
    refine⟨n - 1,by omega,_,z8 [0,1,2,3] [0,3,4,22,23] rfl,2+1,IntKind.i64.wrap (((2:Nat):Int)+1),by omega,by decide,?_⟩
    refine congrArg (St.mk _) ?_
    rw[x4c f c.s 2 h3]
    rfl
  ·refine u6 (x3 (y6 hT ?_))
   refine⟨⟨by omega,by omega⟩,?_⟩
   have ha:=y1z f 3 h0 h1 (by omega)
   refine y6 hT ?_
   refine y8 (u9 (fun h3=>?_) (fun h3=>?_))
   ·have h3:f.off+((3:Nat):Int)<(c.s.length:Int):=by
     have:=k0z h3
     rw[ha.1]at this;exact this
    refine y7 hT ?_
    refine⟨⟨by rw[ha.1];omega,by rw[ha.1];exact h3⟩,?_⟩
    refine Z2 (q9f f c.s 3 h0 h1 (by omega) h3) ?_
    refine⟨⟨by rw[ha.1];omega,by rw[ha.1];exact h3⟩,?_⟩
    refine Z2 (q9f f c.s 3 h0 h1 (by omega) h3) ?_
    refine y7 hT ?_
    refine⟨n - 1,by omega,_,z8 [0,1,2,3] [0,3,4,22,23] rfl,3+1,IntKind.i64.wrap (((3:Nat):Int)+1),by omega,by decide,?_⟩
    refine congrArg (St.mk _) ?_
    rw[y4f f c.s 3 h0 h1 (by omega) h3]
    rfl
   ·have h3:¬ f.off+((3:Nat):Int)<(c.s.length:Int):=by
     have:=k0y h3
     rw[ha.1]at this;exact this
    refine x7 ?_
    refine y7 hT ?_
    refine⟨n - 1,by omega,_,z8 [0,1,2,3] [0,3,4,22,23] rfl,3+1,IntKind.i64.wrap (((3:Nat):Int)+1),by omega,by decide,?_⟩
    refine congrArg (St.mk _) ?_
    rw[x4c f c.s 3 h3]
    rfl
 ·refine Q7 ?_
  have hi:i=4:=by
   have:=k0y (show decide ((i:Int)<4)=false from h)
   omega
  subst hi
  refine Z3 (y4c 4 3 rfl rfl (by rw[Z1,z0h];omega)) ?_
  refine Z0 [9] [] hT u7 (by rfl) ?_
  refine⟨⟨hlt.2.1,hlt.2.2⟩,?_⟩
  refine Z2 g1 ?_
  refine x8 [0,1,2] ⟨rfl,?_⟩ rfl
  refine Eq.trans ?_ (z4c (D.settle f.at_) f.at_ (fun c=>{ c with s:=q8s f c.s 4 }) hc).symm
  refine congrArg (fun z=>[q2x (D.settle f.at_) 1 2,ABlk.row Y7 4 ((cx (D.settle f.at_).cells).set (0+f.at_.toNat) [.sl 1 z,.raw (.bool c.lost),.raw (.int .i64 c.drop),iP c.miss]),ABlk.row Y4 2 (wx (D.settle f.at_).waits)]) ?_
  show ((bx (q8s f c.s 4)).drop 0).take c.s.length=_
  rw[List.drop_zero,← z0h f c.s 4,← Z1,List.take_length]
end Go.Proofs.YtkjklhcfgbaceaaGreat.AL
/- The layer 06 (disk): which faults may be;a fault. -/
namespace Go.Proofs.YtkjklhcfgbaceaaGreat.AL
open Go Go.Proofs
def Dev.may (D:Dev)(f:Flt):Int:=match D.has f.at_ with
 |false=>3
 |true=>match decide (f.kind<1)||decide (f.kind > 5) with
  |true=>1
  |false=>match (f.kind==1)&&(decide (f.off<0)||decide (f.off≥256)) with
   |true=>1
   |false=>match (f.kind==4)&&(decide (f.n<1)||decide (f.n > 1000)) with
    |true=>1
    |false=>match (f.kind==5)&&!(D.has f.to) with
     |true=>3
     |false=>0
theorem v4j (D:Dev)(f:Flt):AFm k0q 3 y3q [.ref 0 0,f.av] (Y3 D) (Q9 (i64 (D.may f)) (Y3 D)):=by
 refine Z6 3 hT Tryz.func38 rfl rfl Tryz.ntmps38 rfl rfl ?_
 refine y6 hT ?_
 refine Z3 (Z4 3 f.pv rfl rfl) ?_
 refine u0 ⟨⟨57,[]⟩,Y3 D⟩ (D.may f=0) (x3 (y6 hT ?_)) ?_
 ·refine Q1 (Z7 [0,1,2] (z9m D f.at_) rfl rfl rfl) ?_
  refine y8 (u9 (fun h=>?_) (fun h=>?_))
  ·have e:D.may f=3:=by unfold Dev.may;rw[(Bool.not_eq_true' _).mp h]
   refine y6 hT ?_
   refine u5 ?_
   rw[e]
   exact x8 [0,1,2] ⟨rfl,rfl⟩ rfl
  have h:D.has f.at_=true:=(Bool.not_eq_false' _).mp h
  have one:(decide (f.kind<1)||decide (f.kind > 5))=true→D.may f=1:=fun h2=>by unfold Dev.may;rw[h,h2]
  refine Q4 (fun s1=>∃ b,b=(decide (f.kind<1)||decide (f.kind > 5))∧s1=⟨⟨57,[(0,.ref 0 0),(3,.p (.box f.pv)),(11,bl b)]⟩,Y3 D⟩) (y6 hT ?_) ?_
  ·refine y8 (u9 (fun h2=>?_) (fun h2=>?_))
   ·refine x7 ⟨_,z8 [0,1,2] [0,3,11] rfl,decide (f.kind<1),?_,rfl⟩
    rw[show decide (f.kind<1)=true from h2];rfl
   ·refine y7 hT ?_
    refine⟨_,z8 [0,1,2] [0,3,11] rfl,decide (f.kind > 5),?_,rfl⟩
    rw[show decide (f.kind<1)=false from h2];rfl
  rintro _ ⟨b,hb,rfl⟩
  refine y8 (u9 (fun h2=>?_) (fun h2=>?_))
  ·have e:D.may f=1:=one (hb.symm.trans h2)
   refine y6 hT ?_
   refine u5 ?_
   rw[e]
   exact x8 [0,1,2] ⟨rfl,rfl⟩ rfl
  have hk:(decide (f.kind<1)||decide (f.kind > 5))=false:=hb.symm.trans h2
  have two:((f.kind==1)&&(decide (f.off<0)||decide (f.off≥256)))=true→D.may f=1:=fun h3=>by unfold Dev.may;rw[h,hk,h3]
  refine Q4 (fun s1=>∃ b,b=((f.kind==1)&&(decide (f.off<0)||decide (f.off≥256)))∧s1=⟨⟨57,[(0,.ref 0 0),(3,.p (.box f.pv)),(18,bl b)]⟩,Y3 D⟩) (y7 hT ?_) ?_
  ·refine u9 (fun h3=>?_) (fun h3=>?_)
   ·have h3:(f.kind==1)=true:=h3
    refine u9 (fun h4=>?_) (fun h4=>?_)
    ·refine⟨_,z8 [0,1,2] [0,3,18] rfl,true,?_,rfl⟩
     rw[h3,show decide (f.off<0)=true from h4];rfl
    ·refine⟨_,z8 [0,1,2] [0,3,18] rfl,decide (f.off≥256),?_,rfl⟩
     rw[h3,show decide (f.off<0)=false from h4];rfl
   ·have h3:(f.kind==1)=false:=h3
    refine⟨_,z8 [0,1,2] [0,3,18] rfl,false,?_,rfl⟩
    rw[h3];rfl
  rintro _ ⟨b,hb,rfl⟩
  refine y8 (u9 (fun h2=>?_) (fun h2=>?_))
  ·have e:D.may f=1:=two (hb.symm.trans h2)
   refine y6 hT ?_
   refine u5 ?_
   rw[e]
   exact x8 [0,1,2] ⟨rfl,rfl⟩ rfl
  have hk2:((f.kind==1)&&(decide (f.off<0)||decide (f.off≥256)))=false:=hb.symm.trans h2
  have three:((f.kind==4)&&(decide (f.n<1)||decide (f.n > 1000)))=true→D.may f=1:=fun h3=>by unfold Dev.may;rw[h,hk,hk2,h3]
  refine Q4 (fun s1=>∃ b,b=((f.kind==4)&&(decide (f.n<1)||decide (f.n > 1000)))∧s1=⟨⟨57,[(0,.ref 0 0),(3,.p (.box f.pv)),(32,bl b)]⟩,Y3 D⟩) (y7 hT ?_) ?_
  ·refine u9 (fun h3=>?_) (fun h3=>?_)
   ·have h3:(f.kind==4)=true:=h3
    refine u9 (fun h4=>?_) (fun h4=>?_)
    ·refine⟨_,z8 [0,1,2] [0,3,32] rfl,true,?_,rfl⟩
     rw[h3,show decide (f.n<1)=true from h4];rfl
    ·refine⟨_,z8 [0,1,2] [0,3,32] rfl,decide (f.n > 1000),?_,rfl⟩
     rw[h3,show decide (f.n<1)=false from h4];rfl
   ·have h3:(f.kind==4)=false:=h3
    refine⟨_,z8 [0,1,2] [0,3,32] rfl,false,?_,rfl⟩
    rw[h3];rfl
  rintro _ ⟨b,hb,rfl⟩
  refine y8 (u9 (fun h2=>?_) (fun h2=>?_))
  ·have e:D.may f=1:=three (hb.symm.trans h2)
   refine y6 hT ?_
   refine u5 ?_
   rw[e]
   exact x8 [0,1,2] ⟨rfl,rfl⟩ rfl
  have hk3:((f.kind==4)&&(decide (f.n<1)||decide (f.n > 1000)))=false:=hb.symm.trans h2
  refine y6 hT ?_
  refine u9 (fun h3=>?_) (fun h3=>?_)
  ·have h3:(f.kind==5)=true:=h3
   refine Q1 (Z7 [0,1,2] (z9m D f.to) rfl rfl rfl) ?_
   refine y8 (u9 (fun h4=>?_) (fun h4=>?_))
   ·have e:D.may f=3:=by unfold Dev.may;rw[h,hk,hk2,hk3,h3,show (!(D.has f.to))=true from h4];rfl
    refine y6 hT ?_
    refine u5 ?_
    rw[e]
    exact x8 [0,1,2] ⟨rfl,rfl⟩ rfl
   ·have e:D.may f=0:=by unfold Dev.may;rw[h,hk,hk2,hk3,h3,show (!(D.has f.to))=false from h4];rfl
    exact x7 ⟨z8 [0,1,2] [] rfl,e⟩
  ·have h3:(f.kind==5)=false:=h3
   have e:D.may f=0:=by unfold Dev.may;rw[h,hk,hk2,hk3,h3];rfl
   refine y8 ?_
   exact x7 ⟨z8 [0,1,2] [] rfl,e⟩
 ·intro e
  refine y6 hT ?_
  refine u5 ?_
  rw[e]
  exact x8 [0,1,2] ⟨rfl,rfl⟩ rfl
structure Dev.Ok (D:Dev) (b:Nat):Prop where
 at_:∀ x∈D.waits,0≤x.at_∧x.at_<(D.cells.length:Int)
 ws:∀ x∈D.waits,x.s.length=256
 cs:∀ c∈D.cells,c.s.length=256
 mt:∀ c∈D.cells,∀ t∈c.miss,0≤t∧t<(D.cells.length:Int)
 ml:∀ c∈D.cells,c.miss.length≤b
 wl:D.waits.length≤b
def Dev.hurt (D:Dev)(f:Flt):Dev:=
 if f.kind=1 then (D.settle f.at_).upd f.at_ fun c=>{ c with s:=q8s f c.s 4 }
 else if f.kind=2 then (D.settle f.at_).upd f.at_ fun c=>{ c with s:=y2w,lost:=false }
 else if f.kind=3 then (D.settle f.at_).upd f.at_ fun c=>{ c with lost:=true }
 else if f.kind=4 then D.upd f.at_ fun c=>{ c with drop:=IntKind.i64.wrap (c.drop+f.n) }
 else D.upd f.at_ fun c=>{ c with miss:=c.miss++[f.to] }
def Dev.fault (D:Dev)(f:Flt):Int × Dev:=match D.may f==0 with
 |false=>(D.may f,D)
 |true=>(0,D.hurt f)
theorem w2u {D:Dev}{f:Flt}(h:D.may f=0):D.has f.at_=true∧(1≤f.kind∧f.kind≤5)∧(f.kind=1→0≤f.off∧f.off<256)∧(f.kind=4→1≤f.n∧f.n≤1000)∧(f.kind=5→D.has f.to=true):=by
 unfold Dev.may at h
 split at h
 ·omega
 rename_i h1
 split at h
 ·omega
 rename_i h2
 split at h
 ·omega
 rename_i h3
 split at h
 ·omega
 rename_i h4
 split at h
 ·omega
 rename_i h5
 simp only[Bool.or_eq_false_iff,decide_eq_false_iff_not,Bool.and_eq_false_iff,beq_eq_false_iff_ne,Bool.not_eq_false']at h2 h3 h4 h5
 refine⟨h1,by omega,fun hk=>?_,fun hk=>?_,fun hk=>?_⟩
 ·rcases h3 with h3|h3
  ·exact absurd hk h3
  ·omega
 ·rcases h4 with h4|h4
  ·exact absurd hk h4
  ·omega
 ·rcases h5 with h5|h5
  ·exact absurd hk h5
  ·exact h5
theorem x0z {C:List Cell}{x:Wr}{c:Cell}(h:c∈q3e C x):c∈C∨∃ c0∈C,c = { c0 with s:=x.s,lost:=false }:=by
 unfold q3e at h
 split at h
 ·rename_i c0 hc0
  rcases List.mem_or_eq_of_mem_set h with h|h
  ·exact .inl h
  ·exact .inr ⟨c0,k2x hc0,h⟩
 ·exact .inl h
theorem z4d {a:Int}{W:List Wr}{C:List Cell}{c:Cell}(h:c∈q1w a W C):∃ c0∈C,c.miss=c0.miss∧(c.s=c0.s∨∃ x∈W,c.s=x.s):=by
 induction W generalizing C with
 |nil=>exact⟨c,h,rfl,.inl rfl⟩
 |cons x r ih=>
  have h:c∈q1w a r (match q5n a x with|true=>q3e C x|false=>C):=h
  obtain⟨c1,h1,h2,h3⟩:=ih h
  have:∃ c0∈C,c1.miss=c0.miss∧(c1.s=c0.s∨c1.s=x.s):=by
   split at h1
   ·rcases x0z h1 with h1|⟨c0,h0,e⟩
    ·exact⟨c1,h1,rfl,.inl rfl⟩
    ·exact⟨c0,h0,by rw[e],.inr (by rw[e])⟩
   ·exact⟨c1,h1,rfl,.inl rfl⟩
  obtain⟨c0,g1,g2,g3⟩:=this
  refine⟨c0,g1,h2.trans g2,?_⟩
  rcases h3 with h3|⟨y,hy,h3⟩
  ·rcases g3 with g3|g3
   ·exact .inl (h3.trans g3)
   ·exact .inr ⟨x,by simp,h3.trans g3⟩
  ·exact .inr ⟨y,by simp[hy],h3⟩
theorem Dev.Ok.settle {D:Dev}{b:Nat}(h:D.Ok b)(a:Int):(D.settle a).Ok b:=by
 have hl:(D.settle a).cells.length=D.cells.length:=q9d _ _ _
 have hw:∀ x∈(D.settle a).waits,x∈D.waits:=fun x hx=>(List.mem_filter.1 hx).1
 refine⟨fun x hx=>by rw[hl];exact h.at_ x (hw x hx),fun x hx=>h.ws x (hw x hx),fun c hc=>?_,fun c hc t ht=>?_,fun c hc=>?_,Nat.le_trans (w2r a D.waits) h.wl⟩
 ·obtain⟨c0,h0,_,h2⟩:=z4d hc
  rcases h2 with h2|⟨x,hx,h2⟩
  ·rw[h2];exact h.cs c0 h0
  ·rw[h2];exact h.ws x hx
 ·obtain⟨c0,h0,h1,_⟩:=z4d hc
  rw[h1]at ht;rw[hl];exact h.mt c0 h0 t ht
 ·obtain⟨c0,h0,h1,_⟩:=z4d hc
  rw[h1];exact h.ml c0 h0
theorem z7r (D:Dev)(f:Flt)(b:Nat)(hD:D.Ok b)(hb:b≤1000000):AFm k0q 3 q9a [.ref 0 0,f.av] (Y3 D) (Q9 (i64 (D.fault f).1) (Y3 (D.fault f).2)):=by
 refine Z6 3 hT Tryz.func13 rfl rfl Tryz.ntmps13 rfl rfl ?_
 refine y6 hT ?_
 refine Z3 (Z4 3 f.pv rfl rfl) ?_
 refine u6 (y6 hT ?_)
 refine Q1 (Z7 [0,1,2] (v4j D f) rfl rfl rfl) ?_
 refine y6 hT ?_
 refine y8 (u9 (fun h=>?_) (fun h=>?_))
 ·have h:(D.may f==0)=false:=by
   have h:(D.may f != 0)=true:=h
   simpa using h
  have e:D.fault f=(D.may f,D):=by unfold Dev.fault;rw[h]
  refine y6 hT ?_
  refine u5 ?_
  rw[e]
  exact x8 [0,1,2] ⟨rfl,rfl⟩ rfl
 have h:(D.may f==0)=true:=by
  have h:(D.may f != 0)=false:=h
  simpa using h
 have e:D.fault f=(0,D.hurt f):=by unfold Dev.fault;rw[h]
 have hm:=w2u (show D.may f=0 by simpa using h)
 rw[e]
 refine x7 ?_
 refine y6 hT ?_
 obtain⟨k,fa,fo,fn,ft,f0,f1,f2,f3⟩:=f
 have hw:D.waitsIn:=fun x hx=>hD.at_ x hx
 have hn:D.waits.length≤1000000:=Nat.le_trans hD.wl hb
 have hcs:∀ c∈(D.settle fa).cells,c.s.length≤1000000:=fun c hc=>by rw[(hD.settle fa).cs c hc];omega
 have hml:∀ c∈D.cells,c.miss.length≤1000000:=fun c hc=>Nat.le_trans (hD.ml c hc) hb
 have hk:k=1∨k=2∨k=3∨k=4∨k=5:=by have:=hm.2.1;simp only at this;omega
 rcases hk with rfl|rfl|rfl|rfl|rfl
 ·refine y6 hT ?_
  refine Q1 (Z7 [0,1,2] (v4i D ⟨1,fa,fo,fn,ft,f0,f1,f2,f3⟩ hw hn hm.1 (hm.2.2.1 rfl).1 (hm.2.2.1 rfl).2 hcs) rfl rfl rfl) ?_
  refine y6 hT ?_
  refine u5 ?_
  exact x8 [0,1,2] ⟨rfl,rfl⟩ rfl
 ·refine y6 hT ?_
  refine Q1 (Z7 [0,1,2] (w2s D ⟨2,fa,fo,fn,ft,f0,f1,f2,f3⟩ hw hn hm.1) rfl rfl rfl) ?_
  refine y6 hT ?_
  refine u5 ?_
  exact x8 [0,1,2] ⟨rfl,rfl⟩ rfl
 ·refine y6 hT ?_
  refine Q1 (Z7 [0,1,2] (w8b D ⟨3,fa,fo,fn,ft,f0,f1,f2,f3⟩ hw hn hm.1) rfl rfl rfl) ?_
  refine y6 hT ?_
  refine u5 ?_
  exact x8 [0,1,2] ⟨rfl,rfl⟩ rfl
 ·refine y6 hT ?_
  refine Q1 (Z7 [0,1,2] (w8c D ⟨4,fa,fo,fn,ft,f0,f1,f2,f3⟩ hm.1) rfl rfl rfl) ?_
  refine y6 hT ?_
  refine u5 ?_
  exact x8 [0,1,2] ⟨rfl,rfl⟩ rfl
 ·refine y6 hT ?_
  refine Q1 (Z7 [0,1,2] (w8d D ⟨5,fa,fo,fn,ft,f0,f1,f2,f3⟩ hm.1 hml) rfl rfl rfl) ?_
  refine y6 hT ?_
  refine u5 ?_
  exact x8 [0,1,2] ⟨rfl,rfl⟩ rfl
def u3s (b:UInt8):x9:=List.replicate 256 b
theorem w2v (s t:x9)(hs:s.length≤1000000):AF k0q x3s [bA s,bA t] [] (Q9 (bl (s==t)) []):=by
 refine Q8 hT Tryz.func16 rfl rfl Tryz.ntmps16 rfl ?_
 refine y6 hT ?_
 refine u6 (y6 hT ?_)
 refine y8 (u9 (fun h=>?_) (fun h=>?_))
 ·have hne:(s==t)=false:=by
   have h:(((bx s).length:Int) != ((bx t).length:Int))=true:=h
   rw[Z1,Z1]at h
   rw[beq_eq_false_iff_ne]
   rintro rfl
   simp at h
  refine y6 hT ?_
  refine u5 ?_
  rw[hne]
  exact x8 [] ⟨rfl,rfl⟩ rfl
 have hlen:s.length=t.length:=by
  have h:(((bx s).length:Int) != ((bx t).length:Int))=false:=h
  rw[Z1,Z1]at h
  have h:(s.length:Int)=t.length:=by simpa using h
  omega
 refine x7 ?_
 refine u6 (y6 hT ?_)
 refine x3 ?_
 refine Q3 (fun n st=>∃ (i:Nat) (j:Int),n+i=s.length∧j=i∧s.take i=t.take i∧st=⟨⟨26,[(0,bA s),(1,bA t),(5,i64 j)]⟩,[]⟩) s.length ⟨⟨26,_⟩,[]⟩ (z8 [] [0,1,5] rfl) ⟨0,_,rfl,rfl,rfl,rfl⟩ ?_
 rintro n st ⟨i,j,hni,rfl,ht,rfl⟩
 refine u6 (y6 hT ?_)
 refine y8 (u9 (fun h=>?_) (fun h=>?_))
 ·have hi:i<s.length:=by
   have:=k0z (show decide ((i:Int)<((bx s).length:Int))=true from h)
   rw[Z1]at this;omega
  have hx:(bx s)[((i:Nat):Int).toNat]?=some [u8 s[i]]:=by
   rw[k0u,bx,k1z,k0w hi];rfl
  have hy:(bx t)[((i:Nat):Int).toNat]?=some [u8 (t[i]'(by omega))]:=by
   rw[k0u,bx,k1z,k0w (by omega)];rfl
  refine x7 ?_
  refine u6 (x3 (u6 ?_))
  refine Z0 [] [] hT u7 (by rfl) ?_
  refine⟨k2w _,Z2 hx ?_⟩
  refine⟨k2w _,Z2 hy ?_⟩
  refine y8 (u9 (fun h2=>?_) (fun h2=>?_))
  ·have hne:(s==t)=false:=by
    rw[beq_eq_false_iff_ne]
    rintro rfl
    have h2:(((s[i].toNat:Nat):Int) != ((s[i].toNat:Nat):Int))=true:=h2
    simp at h2
   refine y6 hT ?_
   refine u5 ?_
   rw[hne]
   exact x8 [] ⟨rfl,rfl⟩ rfl
  ·have he:s[i]=t[i]'(by omega):=by
    have h2:(((s[i].toNat:Nat):Int) != (((t[i]'(by omega)).toNat:Nat):Int))=false:=h2
    have h2:(s[i].toNat:Int)=((t[i]'(by omega)).toNat:Int):=by simpa using h2
    have h2:s[i].toNat=(t[i]'(by omega)).toNat:=by omega
    exact UInt8.toNat_inj.mp h2
   refine x7 ?_
   refine y7 hT ?_
   refine⟨n - 1,by omega,_,z8 [] [0,1,5] rfl,i+1,IntKind.i64.wrap ((i:Int)+1),by omega,?_,?_,rfl⟩
   ·rw[Q0 _ (by omega) (by omega)];rfl
   ·rw[k2t,k2t,ht,k0w hi,k0w (show i<t.length by omega),he]
 ·refine Q7 ?_
  have hi:i=s.length:=by
   have:=k0y (show decide ((i:Int)<((bx s).length:Int))=false from h)
   rw[Z1]at this;omega
  have he:(s==t)=true:=by
   rw[beq_iff_eq]
   rw[hi,List.take_length,hlen,List.take_length]at ht
   exact ht
  refine y6 hT ?_
  refine u5 ?_
  rw[he]
  exact x8 [] ⟨rfl,rfl⟩ rfl
theorem Dev.Ok.mono {D:Dev}{b b':Nat}(h:D.Ok b)(hb:b≤b'):D.Ok b':=
 ⟨h.at_,h.ws,h.cs,h.mt,fun c hc=>Nat.le_trans (h.ml c hc) hb,Nat.le_trans h.wl hb⟩
theorem v4k (n b:Nat):(Dev.new n).Ok b:=by
 refine⟨fun x hx=>by simp[Dev.new]at hx,fun x hx=>by simp[Dev.new]at hx,fun c hc=>?_,fun c hc t ht=>?_,fun c hc=>?_,Nat.zero_le _⟩
 ·rw[List.eq_of_mem_replicate hc];exact k2z
 ·rw[List.eq_of_mem_replicate hc]at ht;simp at ht
 ·rw[List.eq_of_mem_replicate hc];exact Nat.zero_le _
theorem Dev.Ok.lives {D:Dev}{b:Nat}(h:D.Ok b):D.lives.Ok b:=⟨h.at_,h.ws,h.cs,h.mt,h.ml,h.wl⟩
theorem Dev.Ok.count {D:Dev}{b:Nat}(h:D.Ok b):D.count.Ok b:=⟨h.at_,h.ws,h.cs,h.mt,h.ml,h.wl⟩
theorem Dev.Ok.read {D:Dev}{b:Nat}(h:D.Ok b)(a:Int):(D.read a).2.Ok b:=by
 unfold Dev.read
 split
 ·exact h
 ·split
  ·exact h
  ·exact h.count
theorem z7s {W:List Wr}{keep:List Bool}{C:List Cell}{i:Nat}{c:Cell}(h:c∈q3v W keep i C)(hi:i≤W.length):∃ c0∈C,c.miss=c0.miss∧(c.s=c0.s∨∃ x∈W,c.s=x.s):=by
 induction i generalizing c with
 |zero=>exact⟨c,h,rfl,.inl rfl⟩
 |succ i ih=>
  unfold q3v at h
  split at h
  ·have hx:W.getD i ⟨0,[]⟩∈W:=by
    rw[k0v,k0w (by omega)]
    exact k1w _
   rcases x0z h with h|⟨c0,h0,e⟩
   ·exact ih h (by omega)
   ·obtain⟨c1,g1,g2,_⟩:=ih h0 (by omega)
    refine⟨c1,g1,by rw[e];exact g2,.inr ⟨_,hx,by rw[e]⟩⟩
  ·exact ih h (by omega)
theorem Dev.Ok.drain {D:Dev}{b:Nat}(h:D.Ok b)(keep:List Bool):(D.drain keep).Ok b:=by
 have hl:(D.drain keep).cells.length=D.cells.length:=q6d _ _ _ _
 refine⟨fun x hx=>by simp[Dev.drain]at hx,fun x hx=>by simp[Dev.drain]at hx,fun c hc=>?_,fun c hc t ht=>?_,fun c hc=>?_,Nat.zero_le _⟩
 ·obtain⟨c0,h0,_,h2⟩:=z7s hc (k1v _)
  rcases h2 with h2|⟨x,hx,h2⟩
  ·rw[h2];exact h.cs c0 h0
  ·rw[h2];exact h.ws x hx
 ·obtain⟨c0,h0,h1,_⟩:=z7s hc (k1v _)
  rw[h1]at ht;rw[hl];exact h.mt c0 h0 t ht
 ·obtain⟨c0,h0,h1,_⟩:=z7s hc (k1v _)
  rw[h1];exact h.ml c0 h0
theorem Dev.Ok.flush {D:Dev}{b:Nat}(h:D.Ok b):D.flush.2.Ok b:=by
 unfold Dev.flush
 split
 ·exact h
 ·split
  ·exact h.lives
  ·exact h.lives.drain _
theorem Dev.Ok.set {D:Dev}{b:Nat}(h:D.Ok b)(i:Nat){c:Cell}(h1:c.s.length=256)(h2:∀ t∈c.miss,0≤t∧t<(D.cells.length:Int))(h3:c.miss.length≤b):({ D with cells:=D.cells.set i c }:Dev).Ok b:=by
 have hm:∀ x∈D.cells.set i c,x∈D.cells∨x=c:=fun x hx=>List.mem_or_eq_of_mem_set hx
 refine⟨fun x hx=>by show _∧_<((D.cells.set i c).length:Int);rw[List.length_set];exact h.at_ x hx,h.ws,fun x hx=>?_,fun x hx t ht=>?_,fun x hx=>?_,h.wl⟩
 ·rcases hm x hx with hx|rfl
  ·exact h.cs x hx
  ·exact h1
 ·show _∧_<((D.cells.set i c).length:Int)
  rw[List.length_set]
  rcases hm x hx with hx|rfl
  ·exact h.mt x hx t ht
  ·exact h2 t ht
 ·rcases hm x hx with hx|rfl
  ·exact h.ml x hx
  ·exact h3
theorem Dev.Ok.wait {D:Dev}{b:Nat}(h:D.Ok b){x:Wr}(h1:0≤x.at_∧x.at_<(D.cells.length:Int))(h2:x.s.length=256):({ D with waits:=D.waits++[x] }:Dev).Ok (b+1):=by
 have hm:∀ y∈D.waits++[x],y∈D.waits∨y=x:=fun y hy=>by simpa using hy
 refine⟨fun y hy=>?_,fun y hy=>?_,h.cs,h.mt,fun c hc=>Nat.le_succ_of_le (h.ml c hc),?_⟩
 ·rcases hm y hy with hy|rfl
  ·exact h.at_ y hy
  ·exact h1
 ·rcases hm y hy with hy|rfl
  ·exact h.ws y hy
  ·exact h2
 ·show (D.waits++[x]).length≤b+1
  have:=h.wl
  simp;omega
theorem Dev.Ok.put {D:Dev}{b:Nat}(h:D.Ok b){a:Int}(ha:D.has a=true){s:x9}(hs:s.length=256):(D.put a s).Ok (b+1):=by
 have hlt:=q9e ha
 obtain⟨c,hc,_⟩:=q8f D ha
 have hcm:=k2x hc
 obtain⟨c1,c2,c3,c4⟩:=c
 cases h3:decide (c3 > 0) with
 |true=>
  rw[x7m hc h3]
  exact(h.set a.toNat (c:=⟨c1,c2,IntKind.i64.wrap (c3 - 1),c4⟩) (h.cs ⟨c1,c2,c3,c4⟩ hcm) (h.mt ⟨c1,c2,c3,c4⟩ hcm) (h.ml ⟨c1,c2,c3,c4⟩ hcm)).mono (Nat.le_succ _)
 |false=>
  cases c4 with
  |nil=>
   rw[x0v hc h3]
   exact h.wait hlt.2 hs
  |cons t r=>
   rw[x7n hc h3]
   have ht:=h.mt _ hcm t (by simp)
   have h1:=h.set a.toNat (c:=⟨c1,c2,c3,r⟩) (h.cs ⟨c1,c2,c3,t :: r⟩ hcm) (fun t' ht'=>h.mt _ hcm t' (by simp[ht'])) (Nat.le_trans (Nat.le_succ _) (h.ml _ hcm))
   exact h1.wait (x:=⟨t,s⟩) (by show _∧_<((D.cells.set _ _).length:Int);rw[List.length_set];exact ht) hs
theorem Dev.Ok.write {D:Dev}{b:Nat}(h:D.Ok b)(a:Int)(s:x9):(D.write a s).2.Ok (b+1):=by
 unfold Dev.write
 split
 ·exact h.mono (Nat.le_succ _)
 split
 ·exact h.mono (Nat.le_succ _)
 rename_i ha
 split
 ·exact h.mono (Nat.le_succ _)
 rename_i hs
 split
 ·exact h.lives.mono (Nat.le_succ _)
 ·have hs:(s.length:Int)=256:=by simpa using hs
  exact h.lives.count.put (a:=a) ha (by omega)
theorem Dev.Ok.upd {D:Dev}{b:Nat}(h:D.Ok b){a:Int}(ha:D.has a=true)(g:Cell→Cell)(h1:∀ c∈D.cells,(g c).s.length=256)(h2:∀ c∈D.cells,∀ t∈(g c).miss,0≤t∧t<(D.cells.length:Int))(h3:∀ c∈D.cells,(g c).miss.length≤b):(D.upd a g).Ok b:=by
 obtain⟨c,hc,_⟩:=q8f D ha
 have hcm:=k2x hc
 unfold Dev.upd
 rw[y2y g hc]
 exact h.set a.toNat (h1 c hcm) (h2 c hcm) (h3 c hcm)
theorem Dev.Ok.fault {D:Dev}{b:Nat}(h:D.Ok b)(f:Flt):(D.fault f).2.Ok (b+1):=by
 unfold Dev.fault
 split
 ·exact h.mono (Nat.le_succ _)
 rename_i hm
 have hm:=w2u (show D.may f=0 by simpa using hm)
 have hs:=h.settle f.at_
 have ha:(D.settle f.at_).has f.at_=true:=(q4n D f.at_ f.at_).trans hm.1
 unfold Dev.hurt
 split
 ·exact(hs.upd ha (fun c=>{ c with s:=q8s f c.s 4 }) (fun c hc=>(z0h f c.s 4).trans (hs.cs c hc)) (fun c hc=>hs.mt c hc) (fun c hc=>hs.ml c hc)).mono (Nat.le_succ _)
 split
 ·exact(hs.upd ha (fun c=>{ c with s:=y2w,lost:=false }) (fun c hc=>k2z) (fun c hc=>hs.mt c hc) (fun c hc=>hs.ml c hc)).mono (Nat.le_succ _)
 split
 ·exact(hs.upd ha (fun c=>{ c with lost:=true }) (fun c hc=>hs.cs c hc) (fun c hc=>hs.mt c hc) (fun c hc=>hs.ml c hc)).mono (Nat.le_succ _)
 split
 ·exact(h.upd hm.1 (fun c=>{ c with drop:=IntKind.i64.wrap (c.drop+f.n) }) (fun c hc=>h.cs c hc) (fun c hc=>h.mt c hc) (fun c hc=>h.ml c hc)).mono (Nat.le_succ _)
 ·have h5:f.kind=5:=by omega
  have hto:=q9e (hm.2.2.2.2 h5)
  refine(h.mono (Nat.le_succ _)).upd hm.1 (fun c=>{ c with miss:=c.miss++[f.to] }) (fun c hc=>h.cs c hc) (fun c hc t ht=>?_) (fun c hc=>?_)
  ·rcases List.mem_append.1 ht with ht|ht
   ·exact h.mt c hc t ht
   ·have:t=f.to:=by simpa using ht
    rw[this];exact hto.2
  ·have:=h.ml c hc
   simp;omega
def Dev.holds (D:Dev)(a:Int)(b:UInt8):Bool:=match (D.read a).1.2==0 with|true=>(D.read a).1.1==u3s b|false=>false
theorem v4m {D:Dev}{b:Nat}(h:D.Ok b)(a:Int):(D.read a).1.1.length≤256:=by
 unfold Dev.read
 split
 ·exact Nat.zero_le _
 split
 ·exact Nat.zero_le _
 show (D.readAt a).2.length≤256
 unfold Dev.readAt
 split
 ·rename_i x hx
  have:∀ (l:List Wr),q7k (q5n a) l=some x→x∈l:=by
   intro l
   induction l with
   |nil=>intro h;cases h
   |cons y r ih=>
    intro h
    unfold q7k at h
    split at h
    ·rename_i z hz
     obtain rfl:=k0x h
     exact List.mem_cons_of_mem _ (ih hz)
    ·split at h
     ·obtain rfl:=k0x h;simp
     ·cases h
  rw[show (0,x.s).2=x.s from rfl,h.ws x (this _ hx)]
  exact k1v _
 ·split
  ·rename_i c hc
   split
   ·exact Nat.zero_le _
   ·show c.s.length≤256
    rw[h.cs c (k2x hc)]
    exact k1v _
  ·exact Nat.zero_le _
theorem Dev.Ok.big {D:Dev}{b:Nat}(h:D.Ok b)(hb:b≤1000000):D.waitsIn∧D.waits.length≤1000000∧(∀ x∈D.waits,x.s.length≤1000000)∧(∀ c∈D.cells,c.s.length≤1000000):=
 ⟨h.at_,Nat.le_trans h.wl hb,fun x hx=>by rw[h.ws x hx];omega,fun c hc=>by rw[h.cs c hc];omega⟩
end Go.Proofs.YtkjklhcfgbaceaaGreat.AL
namespace Go.Proofs.YtkjklhcfgbaceaaGreat.AL
open Go Go.RowKit
theorem fill {w w':World}{I I':Nat→Prop}{ι ι1:Nat→Option Nat}{H:List ABlk}{b sz:Nat}{t:TypeId}{xs:List (List PV)}(hs:SimH w I ι H)(hb:H[b]?=some .dead)(hι:ι b=none)
 (h1:SimH w' I' ι1 [.row t sz xs]) (hx:Ext w I (fun _=>none) [] w' I' ι1 [.row t sz xs]) :
 SimH w' I' (fun x=>if x=b then ι1 0 else ι x) (H.set b (.row t sz xs))∧Ext w I ι H w' I' (fun x=>if x=b then ι1 0 else ι x) (H.set b (.row t sz xs)):=by
 have hbl:b<H.length:=(k0t.1 hb).1
 have nol:∀ c,¬ live ([]:List ABlk) c:=fun c ⟨k,hk,_⟩=>by simp at hk
 have fr:∀ B,B<w.heap.size→w'.heap[B]?=w.heap[B]?:=fun B hB=>hx.frame B hB fun⟨c,hc,_⟩=>nol c hc
 have hI:∀ B,I B→w'.heap[B]?=w.heap[B]?:=fun B hB=>fr B (hs.Ilt B hB)
 have inew:∀ B,I' B→I B∨w.heap.size≤B:=fun B hB=>by
  rcases hx.Inew B hB with h|h|⟨c,hc,_⟩
  ·exact .inl h
  ·exact .inr h
  ·exact absurd hc (nol c)
 have own0:∀ B,ι1 0=some B→w.heap.size≤B:=fun B hB=>by
  rcases hx.own 0 B ⟨_,rfl,rfl⟩ hB with h|⟨c,hc,_⟩
  ·exact h
  ·exact absurd hc (nol c)
 have mv:∀ c B,ι c=some B→(if c=b then ι1 0 else ι c)=some B:=fun c B hc=>by
  by_cases e:c=b
  ·subst e;rw[hι]at hc;simp at hc
  ·rw[if_neg e];exact hc
 have lv:∀ c,live (H.set b (.row t sz xs)) c→c≠b→live H c:=fun c ⟨k,hk,hl⟩ hc=>by
  rw[k3z (by omega)]at hk;exact⟨k,hk,hl⟩
 have ldb:¬ live H b:=fun⟨k,hk,hl⟩=>by rw[hb]at hk;obtain rfl:=k0x hk;simp[ABlk.live]at hl
 have notI:∀ {B},B<w.heap.size→¬ I B→¬ I' B:=fun {B} hB hn hI'=>by
  rcases inew B hI' with h|h
  ·exact hn h
  ·omega
 refine⟨⟨?_,?_,h1.Ilt,?_,?_⟩,⟨hx.os,hx.tape,hx.output,hx.size,hx.shape,hx.Isub,fun B hB _=>fr B hB,fun B hB=>?_,?_⟩⟩
 ·intro c kc hc
  by_cases e:c=b
  ·subst e
   rw[k2y hbl]at hc
   obtain rfl:=k0x hc
   have h0:=h1.blk 0 _ rfl
   rcases h0 with ⟨g1,g2⟩|⟨B,cs,g1,g2⟩
   ·exact .inl ⟨g1,by show (if c=c then ι1 0 else ι c)=none;rw[if_pos rfl];exact g2⟩
   ·exact .inr ⟨B,cs,by show (if c=c then ι1 0 else ι c)=some B;rw[if_pos rfl];exact g1,g2⟩
  ·rw[k3z (by omega)]at hc
   have h0:=hs.blk c kc hc
   cases kc with
   |dead=>trivial
   |cells t l=>
    obtain⟨B,cs,g1,g2,g3,g4,g5⟩:=h0
    exact⟨B,cs,mv c B g1,by rw[fr B (hs.rng c B g1)];exact g2,notI (hs.rng c B g1) g3,g4,fun i u hu=>(g5 i u hu).move hI hx.Isub mv hx.shape⟩
   |lp q st pe l=>
    obtain⟨B,cs,g1,g2,g3,g4,g5⟩:=h0
    exact⟨B,cs,mv c B g1,by rw[fr B (hs.rng c B g1)];exact g2,notI (hs.rng c B g1) g3,g4,fun i u hu=>(g5 i u hu).move hI hx.Isub mv hx.shape⟩
   |row t sz xs=>
    rcases h0 with ⟨g1,g2⟩|⟨B,cs,g1,g2,g3,g4,g5,g6⟩
    ·exact .inl ⟨g1,by show (if c=b then ι1 0 else ι c)=none;rw[if_neg e];exact g2⟩
    ·exact .inr ⟨B,cs,mv c B g1,by rw[fr B (hs.rng c B g1)];exact g2,notI (hs.rng c B g1) g3,g4,g5,fun j x hj=>⟨(g6 j x hj).1,fun i u hu=>((g6 j x hj).2 i u hu).move hI hx.Isub⟩⟩
   |obj o=>
    obtain⟨g0,B,g1,g2,g3⟩:=h0
    exact⟨g0,B,mv c B g1,by rw[fr B (hs.rng c B g1)];exact g2,notI (hs.rng c B g1) g3⟩
 ·intro c c' B hc hc' e1 e2
  have e1:(if c=b then ι1 0 else ι c)=some B:=e1
  have e2:(if c'=b then ι1 0 else ι c')=some B:=e2
  by_cases h:c=b <;> by_cases h':c'=b
  ·omega
  ·rw[if_pos h]at e1;rw[if_neg h']at e2
   have:=own0 B e1;have:=hs.rng c' B e2;omega
  ·rw[if_neg h]at e1;rw[if_pos h']at e2
   have:=own0 B e2;have:=hs.rng c B e1;omega
  ·rw[if_neg h]at e1;rw[if_neg h']at e2
   exact hs.inj c c' B (lv c hc h) (lv c' hc' h') e1 e2
 ·intro c hc
  simp only[List.length_set]at hc
  show (if c=b then ι1 0 else ι c)=none
  rw[if_neg (by omega)];exact hs.dom c hc
 ·intro c B hc
  have hc:(if c=b then ι1 0 else ι c)=some B:=hc
  by_cases e:c=b
  ·rw[if_pos e]at hc;exact h1.rng 0 B hc
  ·rw[if_neg e]at hc;have:=hs.rng c B hc;have:=hx.size;omega
 ·rcases inew B hB with h|h
  ·exact .inl h
  ·exact .inr (.inl h)
 ·intro c B hc e1
  have e1:(if c=b then ι1 0 else ι c)=some B:=e1
  by_cases e:c=b
  ·rw[if_pos e]at e1;exact .inl (own0 B e1)
  ·rw[if_neg e]at e1;exact .inr ⟨c,lv c hc e,e1⟩
section
variable {P:Program} {T:J1} {ops:Array Oper} {m N:Nat} {B:Array Bool→List ABlk} {G:Array Bool→(Nat→Option Nat)→Prop}
end
structure Mk where
 k:Nat
 t:TypeId
 sz:Nat
 len:Nat
 xs:List (List PV)
abbrev Mk.row (x:Mk):ABlk:=.row x.t x.sz x.xs
abbrev Mk.val (x:Mk)(b:Nat):AV:=.msl b x.sz 0 x.len
section
variable {P:Program} {T:J1} {ops ops':Array Oper} {m:Nat} {fe:List Mk} {ef:List Nat}
end
end Go.Proofs.YtkjklhcfgbaceaaGreat.AL
namespace Go.Proofs.YtkjklhcfgbaceaaGreat.AL
open Go
theorem x7r {α:Type}{l:List α}{i j:Nat}{x d:α}(h:i≠j):(l.set i x).getD j d=l.getD j d:=by
 rw[k0v,k0v,k3z h]
theorem U9 {m:Nat}{s:St}(M:Nat)(ps ks:List Nat)(H2:List ABlk){q:RecK}{st:LoopState}{pe:Option Code}{l:List AV}(hM:s.H[M]?=some (.lp q st pe l))(hl:J0 (M+1) l=true)
 (hp:z8v (M+1) 0 ps=true) (hH:(q8y (s.H.set M .dead) ps ps).set M (.lp q st pe l)=H2)
 (h:(z8v m 0 ps&&q4i ps&&z2q s.H.length ps&&z1i (s.H.set M .dead) ps ps&&q8z s.fr.l ps ks)=true) :
 Wk m s ⟨⟨s.fr.n,q1v s.fr.l ps ks⟩,H2⟩:=by
 subst hH
 simp only[Bool.and_eq_true]at h
 obtain⟨⟨⟨⟨h1,h2⟩,h3⟩,h4⟩,h5⟩:=h
 have hid:∀ b,b<M+1→rho s.H.length ps b=b:=fun b hb=>by
  have:=z5h hp b hb
  simp[rho,List.getD_eq_getElem?_getD,this]
 have hnd:=q6q h2
 have hMp:ps[M]?=some M:=by rw[z5h hp M (by omega)];congr 1;omega
 refine w1z ps ⟨by rw[List.length_set];exact z5i ps,hnd,fun b k hb=>.inr ?_⟩ (fun b hb=>by rw[z5h h1 b hb];congr 1;omega) rfl (fun i u2 hu=>?_)
 ·by_cases e:b=M
  ·subst e
   have hlt:b<(q8y (s.H.set b .dead) ps ps).length:=by
    have:=(k0t.1 hb).1
    simpa using this
   rw[k2y hlt]at hb
   obtain rfl:=k0x hb
   refine⟨b,hMp,?_⟩
   rw[hM]
   congr 1
   show _=ABlk.lp q st pe (q3c _ l)
   rw[q2t hid l hl]
  ·rw[k3z (by omega)]at hb
   obtain⟨p,hpp,hk⟩:=z5j (n:=s.H.length) h4 b k hb
   refine⟨p,hpp,?_⟩
   have hlt:=z3r h3 p (k2x hpp)
   have hne:M≠p:=fun e2=>by
    subst e2
    obtain⟨x1,y1⟩:=k0t.1 hpp
    obtain⟨x2,y2⟩:=k0t.1 hMp
    have hpw:=List.pairwise_iff_getElem.1 hnd
    rcases Nat.lt_trichotomy b M with hlt2|he|hlt2
    ·exact hpw b M x1 x2 hlt2 (y1.trans y2.symm)
    ·exact e he
    ·exact hpw M b x2 x1 hlt2 (y2.trans y1.symm)
   rw[x7r hne]at hk
   rw[← hk,k0v,k0w hlt];rfl
 ·obtain⟨u,hu1,hu2⟩:=z0d (n:=s.H.length) h5 i u2 hu
  exact⟨u,hu1,.inr (.inl hu2)⟩
theorem z1w {m:Nat}{s:St}(i b sz n:Nat){t:TypeId}{xs ys:List (List PV)}(e:xs=ys)(hn:n=xs.length)(hb:s.H[b]?=some (.row t sz xs))(hi:W4 s.fr.l i=some (.msl b sz 0 n)) :
 Wk m s ⟨⟨s.fr.n,(i,.p (.sl sz ys)) :: s.fr.l⟩,s.H.set b .dead⟩:=by
 subst hn
 have:=y4c (m:=m) (s:=s) i b hb hi (by omega)
 rw[List.drop_zero,List.take_length]at this
 subst e
 exact this
end Go.Proofs.YtkjklhcfgbaceaaGreat.AL
namespace Go.Proofs.YtkjklhcfgbaceaaGreat.AL
open Go Go.RowKit
theorem q0b {m:Nat}{s:St}(b c o len:Nat){t t2:TypeId}{sz:Nat}{xs:List (List PV)}{l:List AV}(hb:s.H[b]?=some (.row t sz xs))(hc:s.H[c]?=some (.cells t2 l))(hl:l[o]?=some (.msl b sz 0 len))(hlen:len=xs.length) :
 Wk m s ⟨s.fr,(s.H.set b .dead).set c (.cells t2 (l.set o (.p (.sl sz xs))))⟩:=fun N w I ι a hs hm=>by
 subst hlen
 have hlive:live s.H b:=⟨_,hb,rfl⟩
 have hbc:b≠c:=fun e=>by subst e;rw[hb]at hc;cases hc
 obtain⟨k1,k2⟩:=hs.H.freeze b hlive
 have hblk:=hs.H.blk b _ hb
 have hcb:=hs.H.blk c _ hc
 have hlivec:live (s.H.set b .dead) c:=⟨_,by rw[k3z hbc];exact hc,rfl⟩
 have hsl:∀ (n:Nat) (v:Value),n=xs.length→ARep w I ι (.msl b sz 0 n) v→PRep w (fun C=>I C∨ι b=some C) (.sl sz xs) v:=by
  intro n v hn hu
  cases hu with
  |msl _ _ _ _ B cc hB hcc hsz=>
   rcases hblk with ⟨_,g1⟩|⟨B',cs,g1,g2,g3,g4,gl,g6⟩
   ·rw[g1]at hB;exact absurd hB (by simp)
   ·rw[g1]at hB;obtain rfl:=k0x hB
    have:=x3g (xs:=xs) (I2:=fun C=>I C∨ι b=some C) (off:=0) (len:=n) (fun _ h=>Or.inl h) (Or.inr g1) g2 g4 gl g6 (by omega) hcc
    rw[List.drop_zero,hn,List.take_length]at this
    rw[hn]
    exact this
  |msl0 _ _ _ A=>
   have hx:xs=[]:=List.length_eq_zero_iff.1 hn.symm
   subst hx
   exact PRep.sl (w:=w) sz [] A 0 (fun _ _=>undef) (by simp) (by simp) (.inl rfl) (fun j e i u h=>by simp at h)
 have hlv:∀ d,live ((s.H.set b .dead).set c (.cells t2 (l.set o (.p (.sl sz xs))))) d→live (s.H.set b .dead) d:=fun d hd=>q2k hd hlivec
 have hsim:SimH w (fun C=>I C∨ι b=some C) ι ((s.H.set b .dead).set c (.cells t2 (l.set o (.p (.sl sz xs))))):=by
  refine⟨fun d k hd=>?_,fun d d' B hd hd'=>k1.inj d d' B (hlv d hd) (hlv d' hd'),k1.Ilt,fun d hd=>k1.dom d (by simpa using hd),k1.rng⟩
  by_cases e:d=c
  ·subst e
   rw[k2y (J6 hlivec)]at hd
   obtain rfl:=k0x hd
   obtain⟨B,cs,g1,g2,g3,g4,g5⟩:=hcb
   have h0:=k1.blk d (.cells t2 l) (by rw[k3z hbc];exact hc)
   obtain⟨B',cs',f1,f2,f3,f4,f5⟩:=h0
   rw[g1]at f1;obtain rfl:=k0x f1
   rw[g2]at f2;obtain⟨rfl,_⟩:=Obj.cells.inj (k0x f2)
   refine⟨B,cs,g1,g2,f3,by rw[List.length_set];exact g4,fun i u hu=>?_⟩
   rw[List.getElem?_set]at hu
   split at hu
   ·rename_i e2;subst e2
    split at hu
    ·obtain rfl:=k0x hu
     exact .p (hsl _ _ rfl (g5 o _ hl))
    ·cases hu
   ·exact f5 i u hu
  ·rw[k3z (by omega)]at hd
   exact k1.blk d k hd
 have hx:Ex m w I ι s.H w (fun C=>I C∨ι b=some C) ι ((s.H.set b .dead).set c (.cells t2 (l.set o (.p (.sl sz xs))))):=by
  have hx2:Ex m w (fun C=>I C∨ι b=some C) ι (s.H.set b .dead) w (fun C=>I C∨ι b=some C) ι ((s.H.set b .dead).set c (.cells t2 (l.set o (.p (.sl sz xs))))):=⟨⟨rfl,rfl,rfl,k1v _,Shape.refl w,fun _ h=>h,fun _ _ _=>rfl,fun _ h=>.inl h,fun c B hc h=>.inr ⟨c,hlv c hc,h⟩⟩,fun _ _=>rfl,by simpa using hm⟩
  exact(k2.less hm).trans hx2
 exact⟨_,ι,hs.turn ⟨hs.fr.1,fun i u hu=>(hs.fr.2 i u hu).move (fun _ _=>rfl) (fun _ h=>.inl h) (fun _ _ h=>h) (Shape.refl w)⟩ hsim hx,hx⟩
theorem y2a {P:Program}{f:FuncId}{l l1 rest:List AV}{H:List ABlk}{R:AV→List ABlk→Prop}(h:AF P f (.agg l1 :: rest) H R)(ha:ArgL l l1):AF P f (.agg l :: rest) H R:=by
 obtain⟨k1,k2⟩:=ha.get
 refine⟨h.1,fun w I ι vals hn hv hs=>h.2 w I ι vals (by simpa using hn) (fun i u1 hu1=>?_) hs⟩
 cases i with
 |succ i=>exact hv (i+1) u1 hu1
 |zero=>
  simp only[List.getElem?_cons_zero,Option.some.injEq]at hu1
  subst hu1
  have h0:=hv 0 (.agg l) rfl
  generalize vals.getD 0 undef=x at h0
  cases h0 with
  |agg _ vs hvn hr=>
   refine .agg l1 vs (by omega) fun i u1 hu1=>?_
   obtain⟨u,hu,h1⟩:=k2 i u1 hu1
   rcases h1 with rfl|⟨rfl,sz,rfl⟩
   ·exact hr i _ hu
   ·rw[Y9 (hr i _ hu)]
    exact .p (PRep.sl sz [] none 0 (fun _ _=>undef) (by simp) (by simp) (.inl rfl) (fun j e i u h=>by simp at h))
structure Marked (w w':World) (B:Nat):Prop where
 os:w'.os=w.os
 tape:w'.tape=w.tape
 output:w'.output=w.output
 size:w'.heap.size=w.heap.size
 old:∀ k,k≠B→w'.heap[k]?=w.heap[k]?
 new:∀ cs t fr,w.heap[B]?=some (.cells cs t fr)→∃ fr',w'.heap[B]?=some (.cells cs t fr')
theorem Marked.cell {w w':World}{B:Nat}(m:Marked w w' B){cs:Array Value}{t:TypeId}{fr:Nat × Nat}(hB:w.heap[B]?=some (.cells cs t fr))(C o:Nat):w'.cell? ⟨C,o,none⟩=w.cell? ⟨C,o,none⟩:=by
 unfold World.cell?
 by_cases e:C=B
 ·subst e
  obtain⟨fr',h⟩:=m.new cs t fr hB
  simp only[hB,h]
 ·simp only[m.old C e]
section
variable {P:Program} {T:J1} {m:Nat}
end
end Go.Proofs.YtkjklhcfgbaceaaGreat.AL
namespace Go.Proofs.YtkjklhcfgbaceaaGreat.AL
open Go Go.RowKit
theorem q1a {l:List AV}{K:List AV→Prop}(k:K l):z1h l K:=by rw[z5e];exact k
def w8e (l:List (Nat × AV)):List Nat→List (Nat × AV)
 |[]=>[]
 |t :: ks=>match W4 l t with
  |some u=>(t,u) :: w8e l ks
  |none=>w8e l ks
theorem y2b {l:List (Nat × AV)}:∀ {ks:List Nat} {i:Nat} {u:AV},W4 (w8e l ks) i=some u→W4 l i=some u
 |[],i,u,h=>by simp[w8e,W4]at h
 |t :: ks,i,u,h=>by
  unfold w8e at h
  cases hl:W4 l t with
  |none=>rw[hl]at h;exact y2b h
  |some v=>
   rw[hl]at h
   simp only at h
   by_cases e:t=i
   ·subst e
    rw[U3]at h
    rw[hl];exact h
   ·rw[V4 _ _ e]at h
    exact y2b h
theorem z9n {m:Nat}{s:St}(ks:List Nat):Wk m s ⟨⟨s.fr.n,w8e s.fr.l ks⟩,s.H⟩:=fun _ _ I ι _ hs hm=>
 ⟨I,ι,hs.turn ⟨hs.fr.1,fun i u hu=>hs.fr.2 i u (y2b hu)⟩ hs.H (Ex.refl hm),Ex.refl hm⟩
theorem w5p {u:AV}{H:List ABlk}{R:AV→List ABlk→Prop}{m:Nat}(h:R u H):∃ u2 H2,Wk m ⟨⟨1,[(0,u)]⟩,H⟩ ⟨⟨1,[(0,u2)]⟩,H2⟩∧R u2 H2:=⟨u,H,Wk.refl m _,h⟩
end Go.Proofs.YtkjklhcfgbaceaaGreat.AL
namespace Go.Proofs.YtkjklhcfgbaceaaGreat.AL
namespace Crc
abbrev W:=BitVec 32
def poly:W:=0x82F63B78#32
def st (n:W):W:=(n >>> 1) ^^^ (match n.getLsbD 0 with|true=>poly|false=>0#32)
def stN:Nat→W→W
 |0,n=>n
 |k+1,n=>stN k (st n)
theorem u1t (a b:W):st (a ^^^ b)=st a ^^^ st b:=by
 unfold st
 rw[BitVec.ushiftRight_xor_distrib,BitVec.getLsbD_xor]
 cases a.getLsbD 0 <;> cases b.getLsbD 0
 ·simp
 ·simp[BitVec.xor_assoc]
 ·simp only[Bool.xor_false,BitVec.xor_zero]
  rw[BitVec.xor_assoc,BitVec.xor_assoc,BitVec.xor_comm (b >>> 1)]
 ·show (a >>> 1 ^^^ b >>> 1) ^^^ 0#32=(a >>> 1 ^^^ poly) ^^^ (b >>> 1 ^^^ poly)
  rw[BitVec.xor_zero,BitVec.xor_assoc (a >>> 1),← BitVec.xor_assoc poly,BitVec.xor_comm poly (b >>> 1),BitVec.xor_assoc (b >>> 1),BitVec.xor_self,BitVec.xor_zero]
theorem w5q:∀ (k:Nat) (a b:W),stN k (a ^^^ b)=stN k a ^^^ stN k b
 |0,_,_=>rfl
 |k+1,a,b=>by rw[stN,stN,stN,u1t,w5q k]
theorem w5r:∀ (j k:Nat) (n:W),stN (j+k) n=stN k (stN j n)
 |0,k,n=>by rw[Nat.zero_add];rfl
 |j+1,k,n=>by rw[Nat.add_right_comm];exact w5r j k (st n)
theorem v8e {n:W}(h:n.getLsbD 0=false):st n=n >>> 1:=by unfold st;rw[h];simp
theorem w5s:∀ (k:Nat) {n:W},(∀ i,i<k→n.getLsbD i=false)→stN k n=n >>> k
 |0,n,_=>by simp[stN]
 |k+1,n,h=>by
  rw[stN,v8e (h 0 (by omega)),w5s k (fun i hi=>by rw[BitVec.getLsbD_ushiftRight];exact h (1+i) (by omega)),← BitVec.shiftRight_add,Nat.add_comm k 1]
theorem y6x (i:Nat):(255#32).getLsbD i=decide (i<8):=by
 by_cases h:i<32
 ·have:∀ j:Fin 32,(255#32).getLsbD j.val=decide (j.val<8):=by decide
  exact this ⟨i,h⟩
 ·rw[BitVec.getLsbD_of_ge _ _ (by omega),k1s (by omega)]
theorem v8f (n:W):stN 8 (n ^^^ (n &&& 255#32))=n >>> 8:=by
 rw[w5s 8 (fun i hi=>by rw[BitVec.getLsbD_xor,BitVec.getLsbD_and,y6x,k1t hi,Bool.and_true,Bool.xor_self])]
 apply BitVec.eq_of_getLsbD_eq
 intro i hi
 rw[BitVec.getLsbD_ushiftRight,BitVec.getLsbD_ushiftRight,BitVec.getLsbD_xor,BitVec.getLsbD_and,y6x,k1s (by omega),Bool.and_false,Bool.xor_false]
def wd (c:UInt8):W:=BitVec.ofNat 32 c.toNat
def v4n (n:W)(c:UInt8):W:=stN 8 (n ^^^ wd c)
def run (n:W)(l:List UInt8):W:=l.foldl v4n n
def all1:W:=0xFFFFFFFF#32
def sum (l:List UInt8):W:=run all1 l ^^^ all1
theorem w2w (n:W)(l r:List UInt8):run n (l++r)=run (run n l) r:=List.foldl_append
theorem x7s (n:W)(l:List UInt8)(c:UInt8):run n (l++[c])=v4n (run n l) c:=by rw[w2w];rfl
theorem u1u (a b:UInt8):wd (a ^^^ b)=wd a ^^^ wd b:=by
 unfold wd
 rw[UInt8.toNat_xor]
 apply BitVec.eq_of_getLsbD_eq
 intro i hi
 simp[hi]
end Crc
end Go.Proofs.YtkjklhcfgbaceaaGreat.AL
namespace Go.Proofs.YtkjklhcfgbaceaaGreat.AL
open Go Go.Proofs Go.Proofs.YtkjklhcfgbaceaaGreat.AL.Crc
abbrev u32 (x:W):PV:=.raw (.int .u32 (x.toNat:Int))
theorem y4g (x:W):BitVec.ofInt 32 (x.toNat:Int)=x:=by
 apply BitVec.eq_of_toNat_eq
 rw[BitVec.toNat_ofInt]
 have:=x.isLt
 omega
theorem w2x (x:W):IntKind.u32.wrap (x.toNat:Int)=(x.toNat:Int):=by
 have:=x.isLt
 have e:∀ n:Int,IntKind.u32.wrap n=n % 4294967296:=fun n=>by simp[IntKind.wrap,IntKind.bits,IntKind.signed]
 rw[e];omega
theorem u2t (n:Nat):IntKind.u32.wrap (n:Int)=((BitVec.ofNat 32 n).toNat:Int):=by
 have e:∀ n:Int,IntKind.u32.wrap n=n % 4294967296:=fun n=>by simp[IntKind.wrap,IntKind.bits,IntKind.signed]
 rw[e,BitVec.toNat_ofNat];omega
theorem v9w (x y:W):IntKind.u32.wrap ((BitVec.ofInt 32 (x.toNat:Int) ^^^ BitVec.ofInt 32 (y.toNat:Int)).toNat:Int)=((x ^^^ y).toNat:Int):=by rw[y4g,y4g,w2x]
theorem v4p (x:W)(k:Nat)(hk:k≤32):((x.toNat:Int).fdiv (2 ^ (min ((k:Nat):Int).toNat 32)))=((x >>> k).toNat:Int):=by
 rw[k0u,Nat.min_eq_left hk,BitVec.toNat_ushiftRight,Nat.shiftRight_eq_div_pow]
 rw[Int.fdiv_eq_ediv_of_nonneg _ (Int.pow_nonneg (by omega))]
 rw[Int.natCast_ediv,Int.natCast_pow];rfl
theorem v9x (x:W):(IntKind.u32.wrap ((BitVec.ofInt 32 (x.toNat:Int) &&& BitVec.ofInt 32 1).toNat:Int)==1)=x.getLsbD 0:=by
 rw[y4g,show BitVec.ofInt 32 1=1#32 by decide,w2x]
 have e:(x &&& 1#32).toNat=x.toNat % 2:=by
  rw[BitVec.toNat_and];exact Nat.and_one_is_mod x.toNat
 rw[e,← BitVec.testBit_toNat,Nat.testBit_zero]
 rcases Nat.mod_two_eq_zero_or_one x.toNat with h|h <;> rw[h] <;> decide
theorem w5t (x:W):st x=match x.getLsbD 0 with|true=>(x >>> 1) ^^^ poly|false=>x >>> 1:=by
 unfold st
 cases x.getLsbD 0 with
 |true=>rfl
 |false=>exact BitVec.xor_zero
theorem x7t (k:Nat)(n:W):stN (k+1) n=st (stN k n):=w5r k 1 n
def y3x (j:Nat):W:=stN 8 (BitVec.ofNat 32 j)
def w2y (N i:Nat):List PV:=(List.range i).map (fun j=>u32 (y3x j))++List.replicate (N - i) (u32 0)
def z0i (N i:Nat):List (List PV):=(w2y N i).map fun p=>[p]
theorem v4q {N i:Nat}(h:i<N):(w2y N i).set i (u32 (y3x i))=w2y N (i+1):=by
 unfold w2y
 rw[List.set_append_right _ _ (by simp),k1x,k3q,Nat.sub_self,show N - i=(N - (i+1))+1 by omega,List.replicate_succ,List.set_cons_zero,List.range_succ,List.map_append]
 simp
theorem v4r {N i:Nat}(h:i<N):(z0i N i).set i [u32 (y3x i)]=z0i N (i+1):=by
 unfold z0i;rw[← v4q h,List.map_set]
theorem v4s {N j:Nat}(h:j<N):(z0i N N)[j]?=some [u32 (y3x j)]:=by
 unfold z0i w2y
 rw[Nat.sub_self,List.replicate_zero,List.append_nil,k1z,k1z,k2s h];rfl
theorem w8f {N i:Nat}(h:i<N):∃ x,(z0i N i)[i]?=some [x]:=by
 unfold z0i
 rw[k1z,k0w (by simp[w2y];omega)]
 exact⟨_,rfl⟩
theorem v4t:AF k0q w2n [] [] (Q9 (.elr 0 1 0 0) [.row q2f 1 (z0i 256 256)]):=by
 refine Q8 hT Tryz.func204 rfl rfl Tryz.ntmps204 rfl ?_
 refine y6 hT ?_
 refine y6 hT ?_
 refine Z3 (Wk.trans (u1q 1 0 1 rfl) (u1p 0 (List.replicate 256 (u32 0)) rfl rfl rfl)) ?_
 obtain⟨N,hN⟩:∃ N:Nat,N=256:=⟨_,rfl⟩
 rw[← hN]
 refine u6 (y6 hT ?_)
 refine x3 ?_
 refine Q3 (fun n s=>∃ (i:Nat) (j:Int),n+i=N∧j=i∧s=⟨⟨25,[(1,.elr 0 1 0 0),(5,i64 j)]⟩,[.row q2f 1 (z0i N i)]⟩) N ⟨⟨25,_⟩,[_]⟩ (z8 [0] [1,5] rfl) ⟨0,0,rfl,rfl,by unfold z0i w2y;rfl⟩ ?_
 rintro n s ⟨i,j,hni,rfl,rfl⟩
 refine y6 hT ?_
 refine u6 (y8 (u9 (fun h=>?_) (fun h=>?_)))
 ·have hi:i<N:=by
   have:=k0z (show decide ((i:Int)<256)=true from h)
   omega
  refine x7 ?_
  refine u0 ⟨⟨25,[(1,.elr 0 1 0 0),(5,i64 i)]⟩,[.row q2f 1 (z0i N (i+1))]⟩ True (x3 ?_) (fun _=>?_)
  ·refine y6 hT ?_
   refine y6 hT ?_
   refine u0 ⟨⟨25,[(1,.elr 0 1 0 0),(2,i64 i),(3,.p (u32 (y3x i))),(5,i64 i)]⟩,[.row q2f 1 (z0i N i)]⟩ True (y6 hT ?_) (fun _=>?_)
   ·refine x3 ?_
    refine Q3 (fun n s=>∃ (k:Nat) (j v:Int),n+k=8∧j=k∧v=((stN k (BitVec.ofNat 32 i)).toNat:Int)∧s=⟨⟨25,[(1,.elr 0 1 0 0),(2,i64 i),(3,.p (.raw (.int .u32 v))),(5,i64 i),(10,i64 j)]⟩,[.row q2f 1 (z0i N i)]⟩) 8 ⟨⟨25,_⟩,[_]⟩ (z8 [0] [1,2,3,5,10] rfl) ⟨0,0,_,rfl,rfl,u2t i,rfl⟩ ?_
    rintro m s ⟨k,j,v,hmk,rfl,hv,rfl⟩
    refine y6 hT ?_
    refine u6 (y8 (u9 (fun h=>?_) (fun h=>?_)))
    ·have hk:k<8:=by
      have:=k0z (show decide ((k:Int)<8)=true from h)
      omega
     refine x7 ?_
     refine u0 ⟨⟨25,[(1,.elr 0 1 0 0),(2,i64 i),(3,.p (u32 (stN (k+1) (BitVec.ofNat 32 i)))),(5,i64 i),(10,i64 k)]⟩,[.row q2f 1 (z0i N i)]⟩ True (x3 ?_) (fun _=>?_)
     ·rw[x7t,w5t]
      subst hv
      generalize stN k (BitVec.ofNat 32 i)=x
      refine y6 hT ?_
      refine y6 hT ?_
      refine y6 hT ?_
      refine y8 (u9 (fun h=>?_) (fun h=>?_))
      ·have h:(IntKind.u32.wrap ((BitVec.ofInt 32 (x.toNat:Int) &&& BitVec.ofInt 32 1).toNat:Int)==1)=true:=h
       rw[v9x]at h
       refine y7 hT ?_
       rw[h]
       have e:(((x >>> 1) ^^^ poly).toNat:Int)=IntKind.u32.wrap ((BitVec.ofInt 32 ((x.toNat:Int).fdiv (2 ^ (min ((1:Nat):Int).toNat 32))) ^^^ BitVec.ofInt 32 2197175160).toNat:Int):=by
        rw[v4p x 1 (by omega),y4g,show BitVec.ofInt 32 2197175160=poly by decide,w2x]
       show Wk _ _ ⟨⟨25,[(1,_),(2,_),(3,.p (.raw (.int .u32 (((x >>> 1) ^^^ poly).toNat:Int)))),(5,_),(10,_)]⟩,_⟩∧True
       rw[e]
       exact⟨z8 [0] [1,2,3,5,10] rfl,trivial⟩
      ·have h:(IntKind.u32.wrap ((BitVec.ofInt 32 (x.toNat:Int) &&& BitVec.ofInt 32 1).toNat:Int)==1)=false:=h
       rw[v9x]at h
       refine x7 ?_
       rw[h]
       show Wk _ _ ⟨⟨25,[(1,_),(2,_),(3,.p (.raw (.int .u32 ((x >>> 1).toNat:Int)))),(5,_),(10,_)]⟩,_⟩∧True
       rw[← v4p x 1 (by omega)]
       exact⟨z8 [0] [1,2,3,5,10] rfl,trivial⟩
     ·refine y7 hT ?_
      refine⟨m - 1,by omega,_,z8 [0] [1,2,3,5,10] rfl,k+1,IntKind.i64.wrap ((k:Int)+1),_,by omega,?_,rfl,rfl⟩
      rw[Q0 _ (by omega) (by omega)];rfl
    ·have hk:¬ (k:Int)<8:=k0y h
     have hk8:k=8:=by omega
     subst hk8 hv
     refine Q7 ?_
     exact⟨z8 [0] [1,2,3,5] rfl,trivial⟩
   ·obtain⟨x0,hx0⟩:=w8f hi
    refine y7 hT ?_
    refine⟨⟨k2w _,by omega⟩,?_⟩
    have hx1:(z0i N i)[0+((i:Nat):Int).toNat]?=some [x0]:=by rw[Nat.zero_add,k0u];exact hx0
    refine y4v rfl (Z2 hx1 ?_)
    rw[show z0i N (i+1)=(z0i N i).set (0+((i:Nat):Int).toNat) [u32 (y3x i)] by rw[Nat.zero_add,k0u,v4r hi]]
    exact⟨z8 [0] [1,5] rfl,trivial⟩
  ·refine y7 hT ?_
   refine⟨n - 1,by omega,_,z8 [0] [1,5] rfl,i+1,IntKind.i64.wrap ((i:Int)+1),by omega,?_,rfl⟩
   rw[Q0 _ (by omega) (by omega)];rfl
 ·have hi:i=N:=by
   have:=k0y (show decide ((i:Int)<256)=false from h)
   omega
  subst hi
  refine Q7 ?_
  refine y6 hT ?_
  refine u5 ?_
  rw[hN]
  exact x8 [0] ⟨rfl,rfl⟩ rfl
theorem q3f (n:Nat):IntKind.u8.wrap (n:Int)=((UInt8.ofNat n).toNat:Int):=by
 rw[IntKind.wrap_u8,UInt8.toNat_ofNat'];omega
theorem v8g (x:W)(c:UInt8):IntKind.u8.wrap ((BitVec.ofInt 8 (IntKind.u8.wrap (x.toNat:Int)) ^^^ BitVec.ofInt 8 (c.toNat:Int)).toNat:Int)=((UInt8.ofNat x.toNat ^^^ c).toNat:Int):=by
 rw[q3f x.toNat,w2t]
theorem u1v (x:W):wd (UInt8.ofNat x.toNat)=x &&& 255#32:=by
 apply BitVec.eq_of_getLsbD_eq
 intro i hi
 unfold wd
 rw[BitVec.getLsbD_and,y6x,BitVec.getLsbD_ofNat,k1t hi,Bool.true_and,UInt8.toNat_ofNat',show 2 ^ 8=2 ^ 8 from rfl,Nat.testBit_mod_two_pow,BitVec.testBit_toNat,Bool.and_comm]
theorem v4u (x:W)(c:UInt8):v4n x c=y3x (UInt8.ofNat x.toNat ^^^ c).toNat ^^^ (x >>> 8):=by
 unfold v4n y3x
 rw[show BitVec.ofNat 32 (UInt8.ofNat x.toNat ^^^ c).toNat=wd (UInt8.ofNat x.toNat ^^^ c) from rfl,u1u,u1v,← v8f,← w5q]
 congr 1
 rw[BitVec.xor_assoc,BitVec.xor_comm (wd c),← BitVec.xor_assoc,BitVec.xor_comm x (x &&& 255#32),← BitVec.xor_assoc (x &&& 255#32),BitVec.xor_self,BitVec.zero_xor]
theorem y6y {l:x9}{i:Nat}{c:UInt8}(h:l[i]?=some c):(bx l)[i]?=some [u8 c]:=by rw[bx,k1z,h];rfl
theorem v4v (l:x9)(hl:l.length≤1000000):AF k0q w2k [i64 0,bA l] [] (Q9 (i64 ((sum l).toNat:Int)) []):=by
 obtain⟨N,hN⟩:∃ N:Nat,N=256:=⟨_,rfl⟩
 have hm:=v4t
 rw[← hN]at hm
 refine Q8 hT Tryz.func165 rfl rfl Tryz.ntmps165 rfl ?_
 refine y6 hT ?_
 refine y6 hT ?_
 refine Q1 hm ?_
 refine y6 hT ?_
 refine u0 ⟨⟨34,[(6,.p (u32 (run all1 l)))]⟩,[]⟩ True (y6 hT ?_) (fun _=>?_)
 ·refine x3 ?_
  refine Q3 (fun n s=>∃ (i:Nat) (j v:Int),n+i=l.length∧j=i∧v=((run all1 (l.take i)).toNat:Int)∧s=⟨⟨34,[(5,.elr 0 1 0 0),(6,.p (.raw (.int .u32 v))),(13,bA l),(14,i64 l.length),(15,i64 j)]⟩,[.row q2f 1 (z0i N N)]⟩) l.length ⟨⟨34,_⟩,[_]⟩ (z8 [0] [5,6,13,14,15] rfl) ⟨0,0,_,rfl,rfl,(by decide:IntKind.u32.wrap ((BitVec.ofInt 32 (IntKind.u32.wrap 0) ^^^ BitVec.ofInt 32 4294967295).toNat:Int)=(all1.toNat:Int)),by rw[← Z1 l];rfl⟩ ?_
  rintro n s ⟨i,j,v,hni,rfl,hv,rfl⟩
  refine y6 hT ?_
  refine u6 (y8 (u9 (fun h=>?_) (fun h=>?_)))
  ·have hi:i<l.length:=by
    have:=k0z (show decide ((i:Int)<(l.length:Int))=true from h)
    omega
   have hx:=k0w hi
   have htk:l.take (i+1)=l.take i++[l[i]]:=by rw[k2t,hx];rfl
   generalize l[i]=c at hx htk
   have hxp:(bx l)[((i:Nat):Int).toNat]?=some [u8 c]:=by rw[k0u];exact y6y hx
   have hrun:run all1 (l.take (i+1))=v4n (run all1 (l.take i)) c:=by rw[htk,x7s]
   subst hv
   generalize run all1 (l.take i)=x at hrun
   refine x7 ?_
   refine u0 ⟨⟨34,[(5,.elr 0 1 0 0),(6,.p (u32 (run all1 (l.take (i+1))))),(13,bA l),(14,i64 l.length),(15,i64 i)]⟩,[.row q2f 1 (z0i N N)]⟩ True (x3 (y6 hT ?_)) (fun _=>?_)
   ·refine⟨k2w _,Z2 hxp ?_⟩
    refine y7 hT ?_
    have hy:=v8g x c
    have hyl:(UInt8.ofNat x.toNat ^^^ c).toNat<256:=UInt8.toNat_lt _
    rw[hrun,v4u]
    generalize UInt8.ofNat x.toNat ^^^ c=y at hy hyl
    refine⟨?_,?_⟩
    ·show 0≤IntKind.u8.wrap ((BitVec.ofInt 8 (IntKind.u8.wrap (x.toNat:Int)) ^^^ BitVec.ofInt 8 (c.toNat:Int)).toNat:Int)∧IntKind.u8.wrap ((BitVec.ofInt 8 (IntKind.u8.wrap (x.toNat:Int)) ^^^ BitVec.ofInt 8 (c.toNat:Int)).toNat:Int)<((256:Nat):Int)
     rw[hy];omega
    have hg:(z0i N N)[0+(IntKind.u8.wrap ((BitVec.ofInt 8 (IntKind.u8.wrap (x.toNat:Int)) ^^^ BitVec.ofInt 8 (c.toNat:Int)).toNat:Int)).toNat]?=some [u32 (y3x y.toNat)]:=by
     rw[hy,Nat.zero_add,k0u];exact v4s (by omega)
    refine y4v rfl (Z2 hg ?_)
    have e:(((y3x y.toNat) ^^^ (x >>> 8)).toNat:Int)=IntKind.u32.wrap ((BitVec.ofInt 32 ((y3x y.toNat).toNat:Int) ^^^ BitVec.ofInt 32 ((x.toNat:Int).fdiv (2 ^ (min ((8:Nat):Int).toNat 32)))).toNat:Int):=by
     rw[v4p x 8 (by omega),v9w]
    show Wk _ _ ⟨⟨34,[(5,_),(6,.p (.raw (.int .u32 (((y3x y.toNat) ^^^ (x >>> 8)).toNat:Int)))),(13,_),(14,_),(15,_)]⟩,_⟩∧True
    rw[e]
    exact⟨z8 [0] [5,6,13,14,15] rfl,trivial⟩
   ·refine y7 hT ?_
    refine⟨n - 1,by omega,_,z8 [0] [5,6,13,14,15] rfl,i+1,IntKind.i64.wrap ((i:Int)+1),_,by omega,?_,rfl,rfl⟩
    rw[Q0 _ (by omega) (by omega)];rfl
  ·have hi:¬ (i:Int)<(l.length:Int):=k0y h
   have hil:i=l.length:=by omega
   subst hil hv
   rw[List.take_length]
   refine Q7 ?_
   exact⟨z8 [] [6] rfl,trivial⟩
 ·refine y6 hT ?_
  refine u5 ?_
  refine x8 [] ⟨?_,rfl⟩ rfl
  show AV.p (.raw (.int .i64 (IntKind.i64.wrap (IntKind.u32.wrap ((BitVec.ofInt 32 ((run all1 l).toNat:Int) ^^^ BitVec.ofInt 32 4294967295).toNat:Int)))))=_
  rw[show (4294967295:Int)=(all1.toNat:Int) by decide,v9w]
  have:=(run all1 l ^^^ all1).isLt
  rw[Q0 _ (by omega) (by omega)]
  rfl
theorem x4d (l:x9)(hl:l.length≤1000000):AF k0q y1r [bA l] [] (Q9 (i64 ((sum l).toNat:Int)) []):=by
 refine Q8 hT Tryz.func120 rfl rfl Tryz.ntmps120 rfl ?_
 refine y6 hT ?_
 refine y6 hT ?_
 refine Q1 (v4v l hl) ?_
 refine u5 ?_
 exact x8 [] ⟨rfl,rfl⟩ rfl
end Go.Proofs.YtkjklhcfgbaceaaGreat.AL
namespace Go.Proofs.YtkjklhcfgbaceaaGreat.AL
open Go Go.Proofs
abbrev fC (E:List UInt8)(G:List Int):List AV:=(E.map fun b=>AV.p (u8 b))++(G.map fun n=>i64 n)++[bl true]
theorem y6z {α:Type}:∀ (l:List α) (n:Nat) (v:α),n<l.length→U0 l n [v]=l.set n v
 |[],n,v,h=>by simp at h
 |x :: l,0,v,_=>rfl
 |x :: l,n+1,v,h=>by
  have:=y6z l n v (by simpa using h)
  unfold U0 at this ⊢
  simp only[List.take_succ_cons,List.cons_append,List.set_cons_succ,List.length_singleton]at this ⊢
  rw[show n+1+1=(n+1)+1 from rfl,List.drop_succ_cons,this]
theorem v4w {E:List UInt8}{G:List Int}{n:Nat}(h:n<E.length)(a:UInt8):U0 (fC E G) n [.p (u8 a)]=fC (E.set n a) G:=by
 rw[y6z _ _ _ (by simp[fC];omega)]
 unfold fC
 rw[List.append_assoc,List.set_append_left _ _ (by rw[k1x];exact h),List.map_set,List.append_assoc]
theorem u1w {E:List UInt8}{G:List Int}{n:Nat}(hE:E.length=510)(h:n<G.length)(v:Int):U0 (fC E G) (510+n) [i64 v]=fC E (G.set n v):=by
 rw[y6z _ _ _ (by simp[fC];omega)]
 unfold fC
 rw[List.append_assoc,List.set_append_right _ _ (by rw[k1x];omega),k1x,hE,Nat.add_sub_cancel_left,List.set_append_left _ _ (by rw[k1x];exact h),List.map_set,List.append_assoc]
theorem v4x (E:List UInt8)(G:List Int)(hE:E.length=510)(hG:G.length=256)(n:Int)(n0:0≤n)(n1:n<255)(a:UInt8) :
 AFm k0q 2 z7k [i64 n,.p (u8 a),.ref 1 0] [.cells q8e (fC E G),.cells q5m [.ref 0 0]] (Q9 (.tup []) [.cells q8e (fC ((E.set n.toNat a).set (n.toNat+255) a) (G.set a.toNat n)),.cells q5m [.ref 0 0]]):=by
 have hl:(fC E G).length=767:=by simp[fC,hE,hG]
 generalize hL:fC E G=L at hl
 refine Z6 2 hT Tryz.func226 rfl rfl Tryz.ntmps226 rfl rfl ?_
 refine u6 ?_
 refine Z0 [10,14] [] hT u7 (by rfl) ?_
 refine⟨⟨n0,by omega⟩,?_⟩
 have hw:IntKind.i64.wrap (n+255)=n+255:=Q0 _ (by omega) (by omega)
 refine y4v (k1t (by show 0+0+n.toNat*1+1≤L.length;omega)) ?_
 repeat refine q1a ?_
 rw[hw]
 refine⟨⟨by omega,by show n+255<510;omega⟩,?_⟩
 have hl1:∀ v:AV,(U0 L (0+0+n.toNat*1) [v]).length=767:=fun v=>by rw[V8 (by rw[hl];show 0+0+n.toNat*1+1≤767;omega),hl]
 refine y4v (k1t (by show 0+0+(n+255).toNat*1+1≤(U0 L (0+0+n.toNat*1) [_]).length;rw[hl1];omega)) ?_
 repeat refine q1a ?_
 repeat first|refine⟨rfl,?_⟩|refine⟨⟨⟨by omega,by show n+255<510;omega⟩,rfl⟩,?_⟩|refine⟨⟨⟨n0,by omega⟩,rfl⟩,?_⟩|refine q1a ?_
 refine y7 hT ?_
 repeat refine q1a ?_
 have ha:=a.toNat_lt
 refine⟨⟨by omega,by show ((a.toNat:Nat):Int)<256;omega⟩,?_⟩
 repeat refine q1a ?_
 refine y4v (k1t (by show 0+510+((a.toNat:Nat):Int).toNat*1+1≤(U0 (U0 L (0+0+n.toNat*1) [.p (u8 a)]) (0+0+(n+255).toNat*1) [.p (u8 a)]).length;rw[V8 (by rw[hl1];show 0+0+(n+255).toNat*1+1≤767;omega),hl1];omega)) ?_
 repeat refine q1a ?_
 refine w5p ⟨rfl,?_⟩
 show [ABlk.cells q8e (U0 (U0 (U0 L (0+0+n.toNat*1) [.p (u8 a)]) (0+0+(n+255).toNat*1) [.p (u8 a)]) (0+510+((a.toNat:Nat):Int).toNat*1) [i64 n]),.cells q5m [.ref 0 0]]=_
 rw[← hL,show 0+0+n.toNat*1=n.toNat by omega,show 0+0+(n+255).toNat*1=n.toNat+255 by omega,show 0+510+((a.toNat:Nat):Int).toNat*1=510+a.toNat by omega]
 rw[v4w (by omega),v4w (by rw[List.length_set];omega),u1w (by rw[List.length_set,List.length_set];exact hE) (by omega)]
open Gf in
def stT:Nat→List UInt8 × List Int
 |0=>(List.replicate 510 0,List.replicate 256 0)
 |k+1=>(((stT k).1.set k (pw k)).set (k+255) (pw k),(stT k).2.set (pw k).toNat k)
theorem z1x:∀ k,(stT k).1.length=510∧(stT k).2.length=256
 |0=>⟨k2z,k2z⟩
 |k+1=>by
  obtain⟨h1,h2⟩:=z1x k
  exact⟨by rw[stT,List.length_set,List.length_set,h1],by rw[stT,List.length_set,h2]⟩
abbrev w8g:AV:=.clo (.func z7k) [.ref 1 0]
def LF (k:Nat):List AV:=fC (stT k).1 (stT k).2
abbrev fH (L:Nat→List AV)(k:Nat):List ABlk:=[.cells q8e (L k),.cells q5m [.ref 0 0]]
theorem w8h:AFm k0q 2 x7i [w8g] (fH LF 0) (Q9 (.tup []) (fH LF 255)):=by
 refine Z6 2 hT Tryz.func225 rfl rfl Tryz.ntmps225 rfl rfl ?_
 obtain⟨N,hN⟩:∃ N:Nat,N=255:=⟨_,rfl⟩
 have hfin:fH LF 255=fH LF N:=by rw[hN]
 rw[hfin]
 clear hfin
 have step:∀ k:Nat,k<255→AFm k0q 2 z7k [i64 k,.p (u8 (Gf.pw k)),.ref 1 0] (fH LF k) (Q9 (.tup []) (fH LF (k+1))):=fun k hk=>by
  obtain⟨h1,h2⟩:=z1x k
  have:=v4x (stT k).1 (stT k).2 h1 h2 k (by omega) (by omega) (Gf.pw k)
  rw[k0u]at this
  exact this
 generalize LF=L at step ⊢
 refine u0 ⟨⟨19,[(0,w8g),(2,i64 1)]⟩,fH L 0⟩ True (y7 hT ?_) (fun _=>?_)
 ·repeat refine q1a ?_
  exact⟨z9n [0,2],trivial⟩
 refine y6 hT ?_
 repeat refine q1a ?_
 refine x3 ?_
 refine Q3 (fun n s=>∃ (k:Nat) (j a:Int),n+k=N∧j=k∧a=((Gf.pw k).toNat:Int)∧s=⟨⟨19,[(0,w8g),(2,i64 a),(4,i64 j)]⟩,fH L k⟩) N ⟨⟨19,_⟩,_⟩ (z9n [0,2,4]) ⟨0,0,1,by omega,rfl,rfl,rfl⟩ ?_
 rintro n s ⟨k,j,a,hnk,hj,ha,rfl⟩
 have hb:=(Gf.pw k).toNat_lt
 refine y6 hT ?_
 repeat refine q1a ?_
 refine u6 (y8 (u9 (fun h=>?_) (fun h=>?_)))
 ·have h:=k0z (show decide (j<255)=true from h)
  have hk:k<255:=by omega
  refine x7 ?_
  have w:=step k hk
  have hu:(.p (.raw (.int .u8 (IntKind.u8.wrap a))):AV)=.p (u8 (Gf.pw k)):=by rw[ha,q3f,UInt8.ofNat_toNat]
  rw[← hu,← hj]at w
  have hwr:IntKind.i64.wrap (a*2 ^ (min (1:Int).toNat 64))=a*2:=by
   show IntKind.i64.wrap (a*2 ^ 1)=a*2
   rw[Q0 _ (by omega) (by omega)];omega
  have hnx:=Gf.next_pw (Gf.pw k)
  have hpw:Gf.pw (k+1)=Gf.xt (Gf.pw k):=rfl
  refine Q4 (fun st=>∃ x,x=(((Gf.pw (k+1)).toNat:Nat):Int)∧st=⟨⟨19,[(0,w8g),(2,i64 x),(4,i64 j)]⟩,fH L (k+1)⟩) (x3 (y6 hT ?_)) ?_
  ·repeat refine q1a ?_
   refine u0 ⟨⟨19,[(0,w8g),(2,i64 a),(4,i64 j)]⟩,fH L (k+1)⟩ True (y7 hT ?_) (fun _=>?_)
   ·repeat refine q1a ?_
    refine Q1 w ?_
    repeat refine q1a ?_
    exact⟨z9n [0,2,4],trivial⟩
   refine Q4 (fun st=>∃ x,x=a*2∧st=⟨⟨19,[(0,w8g),(2,i64 x),(4,i64 j)]⟩,fH L (k+1)⟩) (y7 hT ?_) ?_
   ·repeat refine q1a ?_
    exact⟨_,z9n [0,2,4],_,hwr,rfl⟩
   rintro _ ⟨x,hx,rfl⟩
   refine y6 hT ?_
   repeat refine q1a ?_
   refine y8 (u9 (fun h=>?_) (fun h=>?_))
   ·have h:=k0z (show decide (x > 255)=true from h)
    rw[if_pos (by omega)]at hnx
    refine y7 hT ?_
    repeat refine q1a ?_
    refine⟨_,z9n [0,2,4],_,?_,rfl⟩
    show IntKind.i64.wrap ((BitVec.ofInt 64 x ^^^ BitVec.ofInt 64 285).toNat:Int)=((Gf.pw (k+1)).toNat:Int)
    have e1:BitVec.ofInt 64 x=BitVec.ofNat 64 ((Gf.pw k).toNat*2):=by
     rw[hx,ha,show (((Gf.pw k).toNat:Nat):Int)*2=(((Gf.pw k).toNat*2:Nat):Int) by omega];rfl
    have e2:(BitVec.ofInt 64 x ^^^ BitVec.ofInt 64 285).toNat=(Gf.xt (Gf.pw k)).toNat:=by rw[e1,← hnx];rfl
    have hb2:=(Gf.xt (Gf.pw k)).toNat_lt
    rw[e2,hpw,Q0 _ (by omega) (by omega)]
   ·have h:=k0y (show decide (x > 255)=false from h)
    rw[if_neg (by omega)]at hnx
    refine x7 ⟨_,z9n [0,2,4],_,?_,rfl⟩
    rw[hpw,← hnx,hx,ha];omega
  ·rintro _ ⟨x,hx,rfl⟩
   refine y7 hT ?_
   repeat refine q1a ?_
   exact⟨n - 1,by omega,_,z9n [0,2,4],k+1,IntKind.i64.wrap (j+1),x,by omega,by rw[Q0 _ (by omega) (by omega)];omega,hx,rfl⟩
 ·have h:=k0y (show decide (j<255)=false from h)
  refine Q7 ?_
  rw[show k=N by omega]
  exact w5p ⟨rfl,rfl⟩
def fP:List PV:=((stT 255).1.map fun b=>u8 b)++((stT 255).2.map fun n=>.raw (.int .i64 n))++[.raw (.bool true)]
theorem q4p:AF k0q v3x [] [] (Q9 (.p (.box fP)) []):=by
 refine Q8 hT Tryz.func200 rfl rfl Tryz.ntmps200 rfl ?_
 refine y6 hT ?_
 have hf:LF 255=fP.map .p:=by unfold LF fC fP;simp;rfl
 have w:=w8h
 refine Q4 (fun st=>∃ X,X=LF 0∧st=⟨⟨7,[(1,.ref 1 0)]⟩,[.cells q8e X,.cells q5m [.ref 0 0]]⟩) (y7 hT ?_) ?_
 ·exact⟨_,z9n [1],_,rfl,rfl⟩
 rintro _ ⟨X,hX,rfl⟩
 generalize LF=L at w hX hf
 generalize fP=F at hf ⊢
 subst hX
 refine u0 ⟨⟨7,[(1,.ref 1 0)]⟩,fH L 255⟩ True (y7 hT ?_) (fun _=>?_)
 ·repeat refine q1a ?_
  refine Q1 w ?_
  repeat refine q1a ?_
  exact⟨z9n [1],trivial⟩
 refine y6 hT ?_
 repeat refine q1a ?_
 refine Z3 (Z4 0 F rfl hf) ?_
 refine u5 ?_
 exact x8 [] ⟨rfl,rfl⟩ rfl
end Go.Proofs.YtkjklhcfgbaceaaGreat.AL
namespace Go.Proofs.YtkjklhcfgbaceaaGreat.AL
def q6y (a b:Nat):Nat→Nat
 |0=>0
 |k+1=>match a / 2 ^ k % 2 != b / 2 ^ k % 2 with
  |true=>q6y a b k+2 ^ k
  |false=>q6y a b k
theorem v8h (a b k:Nat):(a ^^^ b) / 2 ^ k % 2=if (a / 2 ^ k % 2 != b / 2 ^ k % 2)=true then 1 else 0:=by
 have h:=Nat.testBit_xor (x:=a) (y:=b) (i:=k)
 rw[Nat.testBit_eq_decide_div_mod_eq,Nat.testBit_eq_decide_div_mod_eq,Nat.testBit_eq_decide_div_mod_eq]at h
 have h1:(a ^^^ b) / 2 ^ k % 2<2:=Nat.mod_lt _ (by omega)
 have h2:a / 2 ^ k % 2<2:=Nat.mod_lt _ (by omega)
 have h3:b / 2 ^ k % 2<2:=Nat.mod_lt _ (by omega)
 generalize (a ^^^ b) / 2 ^ k % 2=x at *
 generalize a / 2 ^ k % 2=y at *
 generalize b / 2 ^ k % 2=z at *
 have hx:x=0∨x=1:=by omega
 have hy:y=0∨y=1:=by omega
 have hz:z=0∨z=1:=by omega
 rcases hx with rfl|rfl <;> rcases hy with rfl|rfl <;> rcases hz with rfl|rfl <;> simp at h ⊢
theorem y7a (a b:Nat):∀ k,q6y a b k=(a ^^^ b) % 2 ^ k
 |0=>by rw[Nat.pow_zero,Nat.mod_one];rfl
 |k+1=>by
  have ih:=y7a a b k
  rw[Nat.mod_pow_succ,v8h]
  unfold q6y
  cases h:(a / 2 ^ k % 2 != b / 2 ^ k % 2) with
  |true=>simp only[ih,if_true,Nat.mul_one]
  |false=>simp only[ih,Bool.false_eq_true,if_false,Nat.mul_zero,Nat.add_zero]
theorem v4y (a b k:Nat):q6y a b k<2 ^ k:=by rw[y7a];exact Nat.mod_lt _ (Nat.two_pow_pos k)
end Go.Proofs.YtkjklhcfgbaceaaGreat.AL
namespace Go.Proofs.YtkjklhcfgbaceaaGreat.AL
open Go Go.Proofs Go.Proofs.YtkjklhcfgbaceaaGreat.AL.Crc
theorem y9k (a b:Nat)(ha:a<4294967296)(hb:b<4294967296):AF k0q q5i [i64 a,i64 b] [] (Q9 (i64 (a ^^^ b:Nat)) []):=by
 refine Q8 hT Tryz.func195 rfl rfl Tryz.ntmps195 rfl ?_
 refine y6 hT ?_
 refine y6 hT ?_
 refine y6 hT ?_
 refine u6 (y6 hT ?_)
 refine x3 ?_
 refine Q3 (fun n s=>∃ (k:Nat) (k':Int) (d p x y:Int),n+k=32∧k'=k∧d=q6y a b k∧p=((2 ^ k:Nat):Int)∧x=((a / 2 ^ k:Nat):Int)∧y=((b / 2 ^ k:Nat):Int)∧s=⟨⟨27,[(0,i64 x),(1,i64 y),(5,i64 d),(6,i64 p),(7,i64 k')]⟩,[]⟩) 32 ⟨⟨27,_⟩,[]⟩ (z8 [] [0,1,5,6,7] rfl) ⟨0,0,0,1,_,_,rfl,rfl,rfl,rfl,?_,?_,rfl⟩ ?_
 ·rw[Nat.pow_zero,Nat.div_one]
 ·rw[Nat.pow_zero,Nat.div_one]
 rintro n s ⟨k,k',d,p,x,y,hk,rfl,rfl,rfl,rfl,rfl,rfl⟩
 have hd:=v4y a b k
 have hm:∀ q:Nat,((q:Int).tmod 2)=((q % 2:Nat):Int):=fun q=>by
  rw[Int.tmod_eq_emod_of_nonneg (k2w _)];exact(Int.natCast_emod q 2).symm
 have hq:∀ q:Nat,q<4294967296→IntKind.i64.wrap ((q:Int).tdiv 2)=((q / 2:Nat):Int):=fun q hq=>by
  rw[Int.tdiv_eq_ediv_of_nonneg (k2w _),Q0 _ (by omega) (by omega)];omega
 refine u6 (y6 hT ?_)
 refine y8 (u9 (fun h=>?_) (fun h=>?_))
 ·have hk32:k<32:=by
   have:=k0z (show decide ((k:Int)<32)=true from h)
   omega
  have hp:2 ^ k≤2 ^ 31:=Nat.pow_le_pow_right (by omega) (by omega)
  have hp2:2 ^ (k+1)=2 ^ k*2:=Nat.pow_succ ..
  have hdx:a / 2 ^ k<4294967296:=Nat.lt_of_le_of_lt (Nat.div_le_self _ _) ha
  have hdy:b / 2 ^ k<4294967296:=Nat.lt_of_le_of_lt (Nat.div_le_self _ _) hb
  have hx2:a / 2 ^ (k+1)=a / 2 ^ k / 2:=by rw[hp2,Nat.div_div_eq_div_mul]
  have hy2:b / 2 ^ (k+1)=b / 2 ^ k / 2:=by rw[hp2,Nat.div_div_eq_div_mul]
  refine x7 ?_
  refine u0 ⟨⟨27,[(0,i64 ((a / 2 ^ (k+1):Nat):Int)),(1,i64 ((b / 2 ^ (k+1):Nat):Int)),(5,i64 (q6y a b (k+1):Nat)),(6,i64 ((2 ^ (k+1):Nat):Int)),(7,i64 (k:Nat))]⟩,[]⟩ True (x3 ?_) (fun _=>?_)
  ·refine u0 ⟨⟨27,[(0,i64 ((a / 2 ^ k:Nat):Int)),(1,i64 ((b / 2 ^ k:Nat):Int)),(5,i64 (q6y a b (k+1):Nat)),(6,i64 ((2 ^ k:Nat):Int)),(7,i64 (k:Nat))]⟩,[]⟩ True (y6 hT ?_) (fun _=>?_)
   ·refine y8 (u9 (fun h1=>?_) (fun h1=>?_))
    ·have h1:(((a / 2 ^ k:Nat):Int).tmod 2 != ((b / 2 ^ k:Nat):Int).tmod 2)=true:=h1
     rw[hm,hm]at h1
     have h2:(a / 2 ^ k % 2 != b / 2 ^ k % 2)=true:=by
      rw[bne_iff_ne]at h1 ⊢;omega
     have e:q6y a b (k+1)=q6y a b k+2 ^ k:=by
      conv=>lhs;unfold q6y
      rw[h2]
     refine y7 hT ?_
     have e2:IntKind.i64.wrap (((q6y a b k:Nat):Int)+((2 ^ k:Nat):Int))=((q6y a b (k+1):Nat):Int):=by
      rw[e,Q0 _ (by omega) (by omega)];omega
     rw[← e2]
     exact⟨z8 [] [0,1,5,6,7] rfl,trivial⟩
    ·have h1:(((a / 2 ^ k:Nat):Int).tmod 2 != ((b / 2 ^ k:Nat):Int).tmod 2)=false:=h1
     rw[hm,hm]at h1
     have h2:(a / 2 ^ k % 2 != b / 2 ^ k % 2)=false:=by
      rw[bne_eq_false_iff_eq]at h1 ⊢;omega
     have e:q6y a b (k+1)=q6y a b k:=by
      conv=>lhs;unfold q6y
      rw[h2]
     rw[e]
     exact x7 ⟨z8 [] [0,1,5,6,7] rfl,trivial⟩
   ·refine y6 hT ?_
    refine y6 hT ?_
    refine y7 hT ?_
    have e3:IntKind.i64.wrap (((2 ^ k:Nat):Int)*2)=((2 ^ (k+1):Nat):Int):=by
     rw[hp2,Q0 _ (by omega) (by omega)];omega
    rw[hx2,hy2,← hq _ hdx,← hq _ hdy,← e3]
    exact⟨z8 [] [0,1,5,6,7] rfl,trivial⟩
  ·refine y7 hT ?_
   refine⟨n - 1,by omega,_,z8 [] [0,1,5,6,7] rfl,k+1,IntKind.i64.wrap ((k:Int)+1),_,_,_,_,by omega,?_,rfl,rfl,rfl,rfl,rfl⟩
   rw[Q0 _ (by omega) (by omega)];rfl
 ·have hk32:k=32:=by
   have:=k0y (show decide ((k:Int)<32)=false from h)
   omega
  subst hk32
  refine Q7 ?_
  refine y6 hT ?_
  refine u5 ?_
  have e:q6y a b 32=(a ^^^ b:Nat):=by
   rw[y7a]
   exact Nat.mod_eq_of_lt (Nat.xor_lt_two_pow (show a<2 ^ 32 from ha) (show b<2 ^ 32 from hb))
  rw[← e]
  exact x8 [] ⟨rfl,rfl⟩ rfl
theorem z9p (x y:W):AF k0q q5i [i64 (x.toNat:Int),i64 (y.toNat:Int)] [] (Q9 (i64 ((x ^^^ y).toNat:Int)) []):=by
 have:=y9k x.toNat y.toNat x.isLt y.isLt
 rw[BitVec.toNat_xor];exact this
theorem y7b (q k:Nat):((q:Int).tmod (k:Int))=((q % k:Nat):Int):=by
 rw[Int.tmod_eq_emod_of_nonneg (k2w _)];exact(Int.natCast_emod q k).symm
theorem y7c (q k:Nat)(hq:q<9223372036854775808):IntKind.i64.wrap ((q:Int).tdiv (k:Int))=((q / k:Nat):Int):=by
 rw[Int.tdiv_eq_ediv_of_nonneg (k2w _),← Int.natCast_ediv]
 have:q / k≤q:=Nat.div_le_self _ _
 generalize q / k=r at this
 exact Q0 _ (by omega) (by omega)
theorem v4z (c:UInt8):(wd c).toNat=c.toNat:=by
 unfold wd
 rw[BitVec.toNat_ofNat,Nat.mod_eq_of_lt (Nat.lt_trans c.toNat_lt (by decide))]
theorem v5a (x:W):IntKind.i64.wrap ((x.toNat:Int).tdiv 2)=((x >>> 1).toNat:Int):=by
 have:=x.isLt
 rw[show (2:Int)=((2:Nat):Int) from rfl,y7c _ _ (by omega),BitVec.toNat_ushiftRight,Nat.shiftRight_eq_div_pow]
theorem v9y (x:W):((x.toNat:Int).tmod 2==1)=x.getLsbD 0:=by
 rw[show (2:Int)=((2:Nat):Int) from rfl,y7b,← BitVec.testBit_toNat,Nat.testBit_zero]
 rcases Nat.mod_two_eq_zero_or_one x.toNat with h|h <;> rw[h] <;> decide
theorem w8i (l:x9)(hl:l.length≤1000000):AF k0q x7e [bA l] [] (Q9 (i64 ((sum l).toNat:Int)) []):=by
 refine Q8 hT Tryz.func158 rfl rfl Tryz.ntmps158 rfl ?_
 refine y6 hT ?_
 refine y6 hT ?_
 refine u0 ⟨⟨34,[(3,i64 ((run all1 l).toNat:Int))]⟩,[]⟩ True (y6 hT ?_) (fun _=>?_)
 ·refine x3 ?_
  refine Q3 (fun n s=>∃ (i:Nat) (j v:Int),n+i=l.length∧j=i∧v=((run all1 (l.take i)).toNat:Int)∧s=⟨⟨34,[(0,bA l),(3,i64 v),(4,i64 j)]⟩,[]⟩) l.length ⟨⟨34,_⟩,[]⟩ (z8 [] [0,3,4] rfl) ⟨0,0,_,rfl,rfl,(by decide:(4294967295:Int)=(all1.toNat:Int)),rfl⟩ ?_
  rintro n s ⟨i,j,v,hni,rfl,hv,rfl⟩
  refine u6 (y6 hT ?_)
  refine y8 (u9 (fun h=>?_) (fun h=>?_))
  ·have hi:i<l.length:=by
    have:=k0z (show decide ((i:Int)<((bx l).length:Int))=true from h)
    rw[Z1]at this;omega
   have hx:=k0w hi
   have htk:l.take (i+1)=l.take i++[l[i]]:=by rw[k2t,hx];rfl
   generalize l[i]=c at hx htk
   have hxp:(bx l)[((i:Nat):Int).toNat]?=some [u8 c]:=by rw[k0u];exact y6y hx
   have hrun:run all1 (l.take (i+1))=stN 8 (run all1 (l.take i) ^^^ wd c):=by rw[htk,x7s];rfl
   subst hv
   generalize run all1 (l.take i)=x at hrun
   have w:AF k0q q5i [i64 (x.toNat:Int),i64 (IntKind.i64.wrap (c.toNat:Int))] [] (Q9 (i64 ((x ^^^ wd c).toNat:Int)) []):=by
    have hc:=c.toNat_lt
    rw[Q0 _ (by omega) (by omega),← v4z];exact z9p x (wd c)
   refine x7 ?_
   refine u0 ⟨⟨34,[(0,bA l),(3,i64 ((run all1 (l.take (i+1))).toNat:Int)),(4,i64 i)]⟩,[]⟩ True (x3 (y6 hT ?_)) (fun _=>?_)
   ·rw[hrun]
    refine⟨k2w _,Z2 hxp ?_⟩
    refine Q1 w ?_
    generalize x ^^^ wd c=z
    refine y6 hT ?_
    refine x3 ?_
    refine Q3 (fun n s=>∃ (k:Nat) (j v:Int),n+k=8∧j=k∧v=((stN k z).toNat:Int)∧s=⟨⟨34,[(0,bA l),(3,i64 v),(4,i64 i),(5,i64 j)]⟩,[]⟩) 8 ⟨⟨34,_⟩,[]⟩ (z8 [] [0,3,4,5] rfl) ⟨0,0,_,rfl,rfl,rfl,rfl⟩ ?_
    rintro m s ⟨k,j,v,hmk,rfl,hv,rfl⟩
    refine u6 (y6 hT ?_)
    refine y8 (u9 (fun h=>?_) (fun h=>?_))
    ·have hk:k<8:=by
      have:=k0z (show decide ((k:Int)<8)=true from h)
      omega
     refine x7 ?_
     refine u0 ⟨⟨34,[(0,bA l),(3,i64 ((stN (k+1) z).toNat:Int)),(4,i64 i),(5,i64 k)]⟩,[]⟩ True (x3 ?_) (fun _=>?_)
     ·rw[x7t,w5t]
      subst hv
      generalize stN k z=x
      refine y6 hT ?_
      refine y6 hT ?_
      refine y6 hT ?_
      refine y8 (u9 (fun h=>?_) (fun h=>?_))
      ·have h:((x.toNat:Int).tmod 2==1)=true:=h
       rw[v9y]at h
       have w2:AF k0q q5i [i64 (IntKind.i64.wrap ((x.toNat:Int).tdiv 2)),i64 2197175160] [] (Q9 (i64 (((x >>> 1) ^^^ poly).toNat:Int)) []):=by
        rw[v5a,show (2197175160:Int)=(poly.toNat:Int) by decide];exact z9p _ poly
       refine y7 hT ?_
       refine Q1 w2 ?_
       rw[h]
       exact⟨z8 [] [0,3,4,5] rfl,trivial⟩
      ·have h:((x.toNat:Int).tmod 2==1)=false:=h
       rw[v9y]at h
       refine x7 ?_
       rw[h]
       show Wk _ _ ⟨⟨34,[(0,_),(3,i64 ((x >>> 1).toNat:Int)),(4,_),(5,_)]⟩,_⟩∧True
       rw[← v5a]
       exact⟨z8 [] [0,3,4,5] rfl,trivial⟩
     ·refine y7 hT ?_
      refine⟨m - 1,by omega,_,z8 [] [0,3,4,5] rfl,k+1,IntKind.i64.wrap ((k:Int)+1),_,by omega,?_,rfl,rfl⟩
      rw[Q0 _ (by omega) (by omega)];rfl
    ·have hk:¬ (k:Int)<8:=k0y h
     have hk8:k=8:=by omega
     subst hk8 hv
     refine Q7 ?_
     exact⟨z8 [] [0,3,4] rfl,trivial⟩
   ·refine y7 hT ?_
    refine⟨n - 1,by omega,_,z8 [] [0,3,4] rfl,i+1,IntKind.i64.wrap ((i:Int)+1),_,by omega,?_,rfl,rfl⟩
    rw[Q0 _ (by omega) (by omega)];rfl
  ·have hi:¬ (i:Int)<((bx l).length:Int):=k0y h
   rw[Z1]at hi
   have hil:i=l.length:=by omega
   subst hil hv
   rw[List.take_length]
   refine Q7 ?_
   exact⟨z8 [] [3] rfl,trivial⟩
 ·refine y6 hT ?_
  refine u5 ?_
  refine x8 [] ⟨?_,rfl⟩ rfl
  show AV.p (.raw (.int .i64 (IntKind.i64.wrap (4294967295 - ((run all1 l).toNat:Int)))))=_
  have h1:=(run all1 l).isLt
  have e:(sum l).toNat=4294967295 - (run all1 l).toNat:=by
   unfold sum
   have:run all1 l ^^^ all1 = ~~~ (run all1 l):=by
    rw[← BitVec.xor_allOnes];rfl
   rw[this,BitVec.toNat_not]
  rw[Q0 _ (by omega) (by omega),e]
  congr 3
  omega
def leB (k n:Nat):x9:=(List.range k).map fun j=>UInt8.ofNat (n / 256 ^ j)
theorem q0h (k n:Nat):(leB k n).length=k:=by simp[leB]
theorem z9q (k n:Nat):leB (k+1) n=leB k n++[UInt8.ofNat (n / 256 ^ k)]:=by unfold leB;rw[List.range_succ,List.map_append];rfl
theorem z9r (l:x9)(b:UInt8):bx (l++[b])=bx l++[[u8 b]]:=by simp[bx]
theorem q3w (l r:x9):bx (l++r)=bx l++bx r:=by simp[bx]
theorem y4h (n k:Nat):n / 256 ^ (k+1)=n / 256 ^ k / 256:=by rw[Nat.pow_succ,Nat.div_div_eq_div_mul]
theorem u2u (q:Nat):((q:Int).fdiv (2 ^ (min ((8:Nat):Int).toNat 64)))=((q / 256:Nat):Int):=by
 rw[Int.fdiv_eq_ediv_of_nonneg _ (Int.pow_nonneg (by omega)),Int.natCast_ediv];rfl
theorem w8j (n:Nat):AF k0q y6e [i64 n] [] (Q9 (.msl 0 1 0 4) [.row x6 1 (bx (leB 4 n))]):=by
 refine Q8 hT Tryz.func178 rfl rfl Tryz.ntmps178 rfl ?_
 refine y6 hT ?_
 refine y6 hT ?_
 refine Z3 (Wk.trans (W8 x6 1) (q3u 3 0 1 0 rfl)) ?_
 refine u6 (y6 hT ?_)
 refine x3 ?_
 refine Q3 (fun m s=>∃ (i:Nat) (j v:Int) (L:x9),m+i=4∧j=i∧v=((n / 256 ^ i:Nat):Int)∧L=leB i n∧s=⟨⟨15,[(0,i64 v),(3,.msl 0 1 0 (bx L).length),(4,i64 j)]⟩,[.row x6 1 (bx L)]⟩) 4 ⟨⟨15,_⟩,[_]⟩ (z8 [0] [0,3,4] rfl) ⟨0,0,_,[],rfl,rfl,by rw[Nat.pow_zero,Nat.div_one],rfl,rfl⟩ ?_
 rintro m s ⟨i,j,v,L,hmi,rfl,rfl,hL,rfl⟩
 have hLl:L.length=i:=by rw[hL,q0h]
 have hbl:=Z1 L
 refine y6 hT ?_
 refine u6 (y8 (u9 (fun h=>?_) (fun h=>?_)))
 ·have hi:i<4:=by
   have:=k0z (show decide ((i:Int)<4)=true from h)
   omega
  refine x7 ?_
  refine u0 ⟨⟨15,[(0,i64 ((n / 256 ^ (i+1):Nat):Int)),(3,.msl 0 1 0 (bx (L++[UInt8.ofNat (n / 256 ^ i)])).length),(4,i64 i)]⟩,[.row x6 1 (bx (L++[UInt8.ofNat (n / 256 ^ i)]))]⟩ True (x3 (u6 (X6 (fun k=>Nat.beq 3 k) hT ?_))) (fun _=>?_)
  ·refine⟨⟨rfl,rfl⟩,?_⟩
   refine⟨rfl,⟨?_,?_⟩,?_⟩
   ·show ((bx L).length+1)*1≤140737488355328
    omega
   ·show (bx L).length+1≤140737488355328
    omega
   refine y7 hT ?_
   rw[z9r,show u8 (UInt8.ofNat (n / 256 ^ i))=PV.raw (.int .u8 (IntKind.u8.wrap ((n / 256 ^ i:Nat):Int))) by rw[q3f],y4h,← u2u]
   exact⟨z8 [1] [0,3,4] rfl,trivial⟩
  ·refine y7 hT ?_
   refine⟨m - 1,by omega,_,z8 [0] [0,3,4] rfl,i+1,IntKind.i64.wrap ((i:Int)+1),_,_,by omega,?_,rfl,by rw[hL,z9q],rfl⟩
   rw[Q0 _ (by omega) (by omega)];rfl
 ·have hi:¬ (i:Int)<4:=k0y h
  have hi4:i=4:=by omega
  subst hi4
  refine Q7 ?_
  refine y6 hT ?_
  refine u5 ?_
  subst hL
  have e:(bx (leB 4 n)).length=4:=by rw[hbl,q0h]
  rw[show AV.msl 0 1 0 4=AV.msl 0 1 0 (bx (leB 4 n)).length by rw[e]]
  exact x8 [0] ⟨rfl,rfl⟩ rfl
theorem x7u (n:Nat):AF k0q y6e [i64 n] [] (Q9 (bA (leB 4 n)) []):=z3q (w8j n) (by rw[Z1,q0h])
def J5 (l:x9):x9:=l++leB 4 (sum l).toNat
theorem q3p (l:x9):(J5 l).length=l.length+4:=by unfold J5;rw[k1y,q0h]
theorem v5b (q:Nat):IntKind.u8.wrap ((q:Int).tmod 256)=((UInt8.ofNat q).toNat:Int):=by
 rw[show (256:Int)=((256:Nat):Int) from rfl,y7b,q3f,UInt8.toNat_ofNat',UInt8.toNat_ofNat'];omega
theorem x7v (l:x9)(hl:l.length≤1000000):AF k0q z9f [bA l] [] (Q9 (.msl 0 1 0 (J5 l).length) [.row x6 1 (bx (J5 l))]):=by
 have hbl:=Z1 l
 refine Q8 hT Tryz.func106 rfl rfl Tryz.ntmps106 rfl ?_
 refine y6 hT ?_
 refine y6 hT ?_
 refine Q1 (w8i l hl) ?_
 have hn:=(sum l).isLt
 unfold J5
 generalize (sum l).toNat=n at hn
 refine y6 hT ?_
 refine⟨⟨?_,?_⟩,?_⟩
 ·show (bx l).length*1≤140737488355328
  omega
 ·show (bx l).length≤140737488355328
  omega
 refine u6 (y6 hT ?_)
 refine x3 ?_
 refine Q3 (fun m s=>∃ (i:Nat) (j v:Int) (L:x9),m+i=4∧j=i∧v=((n / 256 ^ i:Nat):Int)∧L=l++leB i n∧s=⟨⟨23,[(3,i64 v),(4,.msl 0 1 0 (bx L).length),(5,i64 j)]⟩,[.row x6 1 (bx L)]⟩) 4 ⟨⟨23,_⟩,[_]⟩ (z8 [0] [3,4,5] rfl) ⟨0,0,_,l,rfl,rfl,by rw[Nat.pow_zero,Nat.div_one],by simp[leB],rfl⟩ ?_
 rintro m s ⟨i,j,v,L,hmi,rfl,rfl,hL,rfl⟩
 have hLl:L.length=l.length+i:=by rw[hL,k1y,q0h]
 have hbL:=Z1 L
 refine u6 (y6 hT ?_)
 refine y8 (u9 (fun h=>?_) (fun h=>?_))
 ·have hi:i<4:=by
   have:=k0z (show decide ((i:Int)<4)=true from h)
   omega
  refine x7 ?_
  refine u0 ⟨⟨23,[(3,i64 ((n / 256 ^ (i+1):Nat):Int)),(4,.msl 0 1 0 (bx (L++[UInt8.ofNat (n / 256 ^ i)])).length),(5,i64 i)]⟩,[.row x6 1 (bx (L++[UInt8.ofNat (n / 256 ^ i)]))]⟩ True (x3 (u6 (X6 (fun k=>Nat.beq 4 k) hT ?_))) (fun _=>?_)
  ·refine⟨⟨rfl,rfl⟩,?_⟩
   refine⟨rfl,⟨?_,?_⟩,?_⟩
   ·show ((bx L).length+1)*1≤140737488355328
    omega
   ·show (bx L).length+1≤140737488355328
    omega
   refine y7 hT ?_
   have hq:n / 256 ^ i≤n:=Nat.div_le_self _ _
   rw[z9r,show u8 (UInt8.ofNat (n / 256 ^ i))=PV.raw (.int .u8 (IntKind.u8.wrap (((n / 256 ^ i:Nat):Int).tmod 256))) by rw[v5b],y4h,← y7c _ 256 (by omega)]
   exact⟨z8 [1] [3,4,5] rfl,trivial⟩
  ·refine y7 hT ?_
   refine⟨m - 1,by omega,_,z8 [0] [3,4,5] rfl,i+1,IntKind.i64.wrap ((i:Int)+1),_,_,by omega,?_,rfl,by rw[hL,z9q,List.append_assoc],rfl⟩
   rw[Q0 _ (by omega) (by omega)];rfl
 ·have hi:¬ (i:Int)<4:=k0y h
  have hi4:i=4:=by omega
  subst hi4
  refine Q7 ?_
  refine y6 hT ?_
  refine u5 ?_
  subst hL
  rw[← Z1 (l++leB 4 n)]
  exact x8 [0] ⟨rfl,rfl⟩ rfl
theorem w2z (l:x9)(hl:l.length≤1000000):AF k0q z9f [bA l] [] (Q9 (bA (J5 l)) []):=z3q (x7v l hl) (by rw[Z1])
end Go.Proofs.YtkjklhcfgbaceaaGreat.AL
namespace Go.Proofs.YtkjklhcfgbaceaaGreat.AL
open Go Go.Proofs
def q2n (k n s:Nat):x9→Nat × Nat × Int
 |[]=>(0,0,6)
 |d :: r=>match decide (k=10)||(decide (k=9)&&decide (d.toNat > 1)) with
  |true=>(0,0,7)
  |false=>match decide (d.toNat≥128) with
   |true=>q2n (k+1) (n+(d.toNat - 128)*s) (s*128) r
   |false=>match decide (d.toNat=0)&&decide (k > 0) with
    |true=>(0,0,7)
    |false=>(n+d.toNat*s,k+1,0)
def q1e (b:x9):Nat × Nat × Int:=q2n 0 0 1 b
def val:x9→Nat
 |[]=>0
 |c :: r=>c.toNat % 128+128*val r
theorem z5n:∀ (l:x9) (k n s:Nat),(q2n k n s l).2.2≠0→(q2n k n s l).1=0∧(q2n k n s l).2.1=0
 |[],_,_,_,_=>⟨rfl,rfl⟩
 |d :: r,k,n,s,h=>by
  unfold q2n at h ⊢
  cases h1:decide (k=10)||(decide (k=9)&&decide (d.toNat > 1)) with
  |true=>exact⟨rfl,rfl⟩
  |false=>
   rw[h1]at h
   cases h2:decide (d.toNat≥128) with
   |true=>rw[h2]at h;exact z5n r _ _ _ h
   |false=>
    rw[h2]at h
    cases h3:decide (d.toNat=0)&&decide (k > 0) with
    |true=>exact⟨rfl,rfl⟩
    |false=>rw[h3]at h;exact absurd rfl h
theorem x7w:∀ (l:x9) (k n:Nat),k≤10→n<128 ^ k→(q2n k n (128 ^ k) l).2.2=0 →
 ∃ j,(q2n k n (128 ^ k) l).2.1=k+j∧0<j∧j≤l.length∧k+j≤10∧(q2n k n (128 ^ k) l).1=n+128 ^ k*val (l.take j)∧(q2n k n (128 ^ k) l).1<2 ^ 64
 |[],_,_,_,_,h=>by simp[q2n]at h
 |d :: r,k,n,hk,hn,h=>by
  have hd:=d.toNat_lt
  unfold q2n at h ⊢
  cases h1:decide (k=10)||(decide (k=9)&&decide (d.toNat > 1)) with
  |true=>rw[h1]at h;simp at h
  |false=>
   rw[h1]at h
   rw[Bool.or_eq_false_iff,Bool.and_eq_false_iff]at h1
   have k10:=k0y h1.1
   cases h2:decide (d.toNat≥128) with
   |true=>
    have hd2:=k0z h2
    have k9:k≤8:=by
     rcases h1.2 with h|h
     ·have:=k0y h;omega
     ·have:=k0y h;omega
    rw[h2]at h
    have hm:d.toNat % 128=d.toNat - 128:=by omega
    have hn':n+(d.toNat - 128)*128 ^ k<128 ^ (k+1):=by
     have:(d.toNat - 128)*128 ^ k≤127*128 ^ k:=k2v _ (by omega)
     rw[Nat.pow_succ];omega
    rw[← Nat.pow_succ]at h ⊢
    obtain⟨j,a1,a2,a3,a4,a5,a6⟩:=x7w r (k+1) _ (by omega) hn' h
    refine⟨j+1,?_,by omega,by simpa using a3,by omega,?_,a6⟩
    ·show (q2n (k+1) _ _ r).2.1=_
     rw[a1];omega
    ·show (q2n (k+1) _ _ r).1=_
     rw[a5,List.take_succ_cons,val,hm,Nat.mul_add,Nat.pow_succ,Nat.mul_comm (d.toNat - 128),Nat.mul_assoc];omega
   |false=>
    have hd2:=k0y h2
    rw[h2]at h
    cases h3:decide (d.toNat=0)&&decide (k > 0) with
    |true=>rw[h3]at h;simp at h
    |false=>
     refine⟨1,rfl,by omega,by simp,by omega,?_,?_⟩
     ·show n+d.toNat*128 ^ k=n+128 ^ k*(d.toNat % 128+128*0)
      rw[show d.toNat % 128=d.toNat by omega,Nat.mul_comm];rfl
     ·show n+d.toNat*128 ^ k<_
      rcases Nat.lt_or_ge k 9 with hk8|hk9
      ·have h1:128 ^ k≤128 ^ 8:=Nat.pow_le_pow_right (by omega) (by omega)
       have h2:d.toNat*128 ^ k≤127*128 ^ 8:=Nat.mul_le_mul (by omega) h1
       omega
      ·have hk9:k=9:=by omega
       subst hk9
       have hd1:d.toNat≤1:=by
        rcases h1.2 with h|h
        ·exact absurd rfl (k0y h)
        ·have:=k0y h;omega
       have:d.toNat*128 ^ 9≤1*128 ^ 9:=k2v _ hd1
       omega
def q1b (b:x9):Nat × Nat × Int:=match q1e b with
 |(n,k,e)=>match decide (e=0)&&decide (n≥2 ^ 63) with
  |true=>(0,0,7)
  |false=>(n,k,e)
theorem x7x {b:x9}(h:(q1e b).2.2=0):0<(q1e b).2.1∧(q1e b).2.1≤b.length∧(q1e b).2.1≤10∧(q1e b).1=val (b.take (q1e b).2.1)∧(q1e b).1<2 ^ 64:=by
 obtain⟨j,a1,a2,a3,a4,a5,a6⟩:=x7w b 0 0 (by omega) (by simp) h
 have e:(q1e b).2.1=j:=by show (q2n 0 0 1 b).2.1=j;rw[show (1:Nat)=128 ^ 0 from rfl,a1];omega
 rw[e]
 refine⟨a2,a3,by omega,?_,a6⟩
 show (q2n 0 0 (128 ^ 0) b).1=_
 rw[a5];simp
theorem v8i (b:x9):(q1b b).1<2 ^ 63:=by
 unfold q1b
 by_cases h:(q1e b).2.2=0
 ·generalize hY:q1e b=Y at h
  obtain⟨n,k,e⟩:=Y
  show (match decide (e=0)&&decide (n≥2 ^ 63) with|true=>(0,0,7)|false=>(n,k,e):Nat × Nat × Int).1<_
  cases h2:decide (e=0)&&decide (n≥2 ^ 63) with
  |true=>exact Nat.two_pow_pos 63
  |false=>
   rw[k1t (show e=0 from h),Bool.true_and]at h2
   have:=k0y h2
   show n<_
   omega
 ·have h0:=z5n b 0 0 1 h
  have h1:(q1e b).1=0:=h0.1
  generalize hY:q1e b=Y at h h1
  obtain⟨n,k,e⟩:=Y
  have h1:n=0:=h1
  subst h1
  show (match decide (e=0)&&decide ((0:Nat)≥2 ^ 63) with|true=>(0,0,7)|false=>(0,k,e):Nat × Nat × Int).1<_
  cases h2:decide (e=0)&&decide ((0:Nat)≥2 ^ 63) <;> exact Nat.two_pow_pos 63
def q0f (n:Nat):x9:=if n<128 then [UInt8.ofNat n] else UInt8.ofNat (n % 128+128) :: q0f (n / 128)
termination_by n
decreasing_by omega
theorem y4i {n:Nat}(h:n<128):q0f n=[UInt8.ofNat n]:=by rw[q0f,if_pos h]
theorem x4e {n:Nat}(h:¬ n<128):q0f n=UInt8.ofNat (n % 128+128) :: q0f (n / 128):=by rw[q0f,if_neg h]
theorem q5p:∀ (k n:Nat),n<128 ^ (k+1)→(q0f n).length≤k+1
 |0,n,h=>by rw[y4i (by simpa using h)];simp
 |k+1,n,h=>by
  by_cases h1:n<128
  ·rw[y4i h1];simp
  ·rw[x4e h1,List.length_cons]
   have:=q5p k (n / 128) (by rw[Nat.pow_succ]at h;exact Nat.div_lt_of_lt_mul (by rw[Nat.mul_comm];exact h))
   omega
theorem w3a:∀ (k n a:Nat) (r:x9),k≤9→(k=0∨0<n)→n*128 ^ k<2 ^ 64→q2n k a (128 ^ k) (q0f n++r)=(a+n*128 ^ k,k+(q0f n).length,0):=by
 intro k n
 induction n using Nat.strongRecOn generalizing k with
 |ind n ih=>
  intro a r hk h0 hb
  by_cases h1:n<128
  ·rw[y4i h1]
   have hc:(UInt8.ofNat n).toNat=n:=by rw[UInt8.toNat_ofNat'];omega
   show q2n k a (128 ^ k) (UInt8.ofNat n :: r)=_
   unfold q2n
   rw[hc]
   have e1:(decide (k=10)||(decide (k=9)&&decide (n > 1)))=false:=by
    rw[k1s (by omega),Bool.false_or,Bool.and_eq_false_iff]
    by_cases h9:k=9
    ·right
     subst h9
     apply k1s
     intro h2
     have:2*128 ^ 9≤n*128 ^ 9:=k2v _ h2
     omega
    ·left;exact k1s h9
   have e3:(decide (n=0)&&decide (k > 0))=false:=by
    rw[Bool.and_eq_false_iff]
    rcases h0 with h|h
    ·right;exact k1s (by omega)
    ·left;exact k1s (by omega)
   rw[e1,k1s (show ¬ n≥128 by omega),e3]
   rfl
  ·rw[x4e h1]
   have hc:(UInt8.ofNat (n % 128+128)).toNat=n % 128+128:=by rw[UInt8.toNat_ofNat'];omega
   have hk8:k≤8:=by
    rcases Nat.lt_or_ge k 9 with h|h
    ·omega
    ·have h9:k=9:=by omega
     subst h9
     have:128*128 ^ 9≤n*128 ^ 9:=k2v _ (by omega)
     omega
   show q2n k a (128 ^ k) (UInt8.ofNat (n % 128+128) :: (q0f (n / 128)++r))=_
   unfold q2n
   rw[hc]
   have e1:(decide (k=10)||(decide (k=9)&&decide (n % 128+128 > 1)))=false:=by
    rw[k1s (by omega),k1s (show ¬ k=9 by omega)];rfl
   rw[e1,k1t (show n % 128+128≥128 by omega)]
   show q2n (k+1) (a+(n % 128+128 - 128)*128 ^ k) (128 ^ k*128) _=_
   rw[← Nat.pow_succ]
   have hsplit:n / 128*128 ^ (k+1)+n % 128*128 ^ k=n*128 ^ k:=by
    rw[Nat.pow_succ,Nat.mul_comm (128 ^ k) 128,← Nat.mul_assoc,← Nat.add_mul]
    congr 1;omega
   rw[ih (n / 128) (by omega) (k+1) _ r (by omega) (.inr (by omega)) (by omega)]
   rw[List.length_cons,Nat.add_sub_cancel]
   refine Prod.ext ?_ (Prod.ext ?_ rfl)
   ·show a+n % 128*128 ^ k+n / 128*128 ^ (k+1)=a+n*128 ^ k
    omega
   ·show k+1+_=k+(_+1)
    omega
theorem y2c (n:Nat)(r:x9)(h:n<2 ^ 63):q1b (q0f n++r)=(n,(q0f n).length,0):=by
 have e:=w3a 0 n 0 r (by omega) (.inl rfl) (by simpa using Nat.lt_trans h (by decide))
 have e:q1e (q0f n++r)=(n,(q0f n).length,0):=by
  show q2n 0 0 (128 ^ 0) _=_
  rw[e];simp
 unfold q1b
 rw[e]
 show (match decide ((0:Int)=0)&&decide (n≥2 ^ 63) with|true=>(0,0,7)|false=>(n,(q0f n).length,0):Nat × Nat × Int)=_
 rw[k1s (show ¬ n≥2 ^ 63 by omega),Bool.and_false]
end Go.Proofs.YtkjklhcfgbaceaaGreat.AL
namespace Go.Proofs.YtkjklhcfgbaceaaGreat.AL
open Go Go.Proofs Go.Proofs.YtkjklhcfgbaceaaGreat.AL.Crc
theorem x4f (s t:x9)(hs:s.length≤1000000):AF k0q q7j [bA s,bA t] [] (Q9 (bl (s==t)) []):=by
 refine Q8 hT Tryz.func205 rfl rfl Tryz.ntmps205 rfl ?_
 refine y6 hT ?_
 refine u6 (y6 hT ?_)
 refine y8 (u9 (fun h=>?_) (fun h=>?_))
 ·have hne:(s==t)=false:=by
   have h:(((bx s).length:Int) != ((bx t).length:Int))=true:=h
   rw[Z1,Z1]at h
   rw[beq_eq_false_iff_ne]
   rintro rfl
   simp at h
  refine y6 hT ?_
  refine u5 ?_
  rw[hne]
  exact x8 [] ⟨rfl,rfl⟩ rfl
 have hlen:s.length=t.length:=by
  have h:(((bx s).length:Int) != ((bx t).length:Int))=false:=h
  rw[Z1,Z1]at h
  have h:(s.length:Int)=t.length:=by simpa using h
  omega
 refine x7 ?_
 refine u6 (y6 hT ?_)
 refine x3 ?_
 refine Q3 (fun n st=>∃ (i:Nat) (j:Int),n+i=s.length∧j=i∧s.take i=t.take i∧st=⟨⟨26,[(0,bA s),(1,bA t),(12,i64 s.length),(13,i64 j)]⟩,[]⟩) s.length ⟨⟨26,_⟩,[]⟩ (z8 [] [0,1,12,13] rfl) ⟨0,_,rfl,rfl,rfl,by rw[← Z1 s];rfl⟩ ?_
 rintro n st ⟨i,j,hni,rfl,ht,rfl⟩
 refine y6 hT ?_
 refine u6 (y8 (u9 (fun h=>?_) (fun h=>?_)))
 ·have hi:i<s.length:=by
   have:=k0z (show decide ((i:Int)<(s.length:Int))=true from h)
   omega
  have hx:(bx s)[((i:Nat):Int).toNat]?=some [u8 s[i]]:=by
   rw[k0u,bx,k1z,k0w hi];rfl
  have hy:(bx t)[((i:Nat):Int).toNat]?=some [u8 (t[i]'(by omega))]:=by
   rw[k0u,bx,k1z,k0w (by omega)];rfl
  refine x7 ?_
  refine u6 (x3 (y6 hT ?_))
  refine u6 ?_
  refine Z0 [] [] hT u7 (by rfl) ?_
  refine⟨k2w _,Z2 hx ?_⟩
  refine⟨k2w _,Z2 hy ?_⟩
  refine y8 (u9 (fun h2=>?_) (fun h2=>?_))
  ·have hne:(s==t)=false:=by
    rw[beq_eq_false_iff_ne]
    rintro rfl
    have h2:(((s[i].toNat:Nat):Int) != ((s[i].toNat:Nat):Int))=true:=h2
    simp at h2
   refine y6 hT ?_
   refine u5 ?_
   rw[hne]
   exact x8 [] ⟨rfl,rfl⟩ rfl
  ·have he:s[i]=t[i]'(by omega):=by
    have h2:(((s[i].toNat:Nat):Int) != (((t[i]'(by omega)).toNat:Nat):Int))=false:=h2
    have h2:(s[i].toNat:Int)=((t[i]'(by omega)).toNat:Int):=by simpa using h2
    have h2:s[i].toNat=(t[i]'(by omega)).toNat:=by omega
    exact UInt8.toNat_inj.mp h2
   refine x7 ?_
   refine y7 hT ?_
   refine⟨n - 1,by omega,_,z8 [] [0,1,12,13] rfl,i+1,IntKind.i64.wrap ((i:Int)+1),by omega,?_,?_,rfl⟩
   ·rw[Q0 _ (by omega) (by omega)];rfl
   ·rw[k2t,k2t,ht,k0w hi,k0w (show i<t.length by omega),he]
 ·refine Q7 ?_
  have hi:i=s.length:=by
   have:=k0y (show decide ((i:Int)<(s.length:Int))=false from h)
   omega
  have he:(s==t)=true:=by
   rw[beq_iff_eq]
   rw[hi,List.take_length,hlen,List.take_length]at ht
   exact ht
  refine y6 hT ?_
  refine u5 ?_
  rw[he]
  exact x8 [] ⟨rfl,rfl⟩ rfl
theorem x7y (l:x9)(hl:l.length≤1000000):AF k0q q9u [bA l] [] (Q9 (bA l) []):=by
 have hb:=Z1 l
 generalize hx:bx l=xs at hb
 show AF k0q q9u [.p (.sl 1 (bx l))] [] (Q9 (.p (.sl 1 (bx l))) [])
 rw[hx]
 refine z3q (t:=x6) (n:=xs.length) ?_ rfl
 refine Q8 hT Tryz.func170 rfl rfl Tryz.ntmps170 rfl ?_
 refine y6 hT ?_
 refine u6 (y6 hT ?_)
 intro b hn
 refine y8 (u9 (fun h=>?_) (fun h=>?_))
 ·refine y6 hT ?_
  refine u5 ?_
  rw[hn h]
  exact x3r x6 1 ⟨rfl,rfl⟩
 ·refine x7 ?_
  refine y6 hT ?_
  refine⟨rfl,⟨?_,?_⟩,?_⟩
  ·show (0+xs.length)*1≤_;omega
  ·show 0+xs.length≤_;omega
  refine u5 ?_
  exact x8 [1] ⟨rfl,rfl⟩ rfl
theorem x7z (n:Int)(h0:0≤n)(hn:n≤1000000):AF k0q z7j [.p (.raw (.slice none 0 0)),i64 n] [] (Q9 (.msl 0 1 0 0) [.row x6 1 []]):=by
 refine Q8 hT Tryz.func210 rfl rfl Tryz.ntmps210 rfl ?_
 refine y6 hT ?_
 refine u6 (y6 hT ?_)
 refine y8 (u9 (fun h=>?_) (fun h=>?_))
 ·have:=k0z (show decide (n<0)=true from h)
  omega
 refine x7 ?_
 have e:IntKind.i64.wrap (n - IntKind.i64.wrap (0 - 0))=n:=by rw[Q0 (0 - 0) (by omega) (by omega),Q0 _ (by omega) (by omega)];omega
 refine u0 ⟨⟨27,[(0,.msl 0 1 0 0)]⟩,[.row x6 1 []]⟩ True (y6 hT ?_) (fun _=>?_)
 ·refine y6 hT ?_
  refine y8 (u9 (fun h=>?_) (fun h=>?_))
  ·have h:decide (IntKind.i64.wrap (n - IntKind.i64.wrap (0 - 0)) > 0)=true:=h
   refine y7 hT ?_
   refine⟨⟨rfl,rfl⟩,?_⟩
   refine⟨⟨?_,?_,?_⟩,?_⟩
   ·show 0≤IntKind.i64.wrap (n - IntKind.i64.wrap (0 - 0))
    rw[e];exact h0
   ·show IntKind.i64.wrap (n - IntKind.i64.wrap (0 - 0))*1≤140737488355328
    rw[e];omega
   ·show IntKind.i64.wrap (n - IntKind.i64.wrap (0 - 0))≤140737488355328
    rw[e];omega
   refine⟨⟨Int.le_refl _,Int.le_refl _,k2w _⟩,?_⟩
   refine⟨Wk.trans (z8 [0] [0] rfl) (Wk.trans (y6s 0 0 rfl) ?_),trivial⟩
   exact z8 [0] [0] rfl
  ·refine x7 ?_
   exact⟨Wk.trans (W8 x6 1) (Wk.trans (q3u 0 0 1 0 rfl) (z8 [0] [0] rfl)),trivial⟩
 ·refine y6 hT ?_
  refine u5 ?_
  exact x8 [0] ⟨rfl,rfl⟩ rfl
end Go.Proofs.YtkjklhcfgbaceaaGreat.AL
