/- A part of the proof. -/
import Derived.ProofKit
import Derived.OpenShut
import Derived.ChangeOld
import Derived.Below
import Derived.SizedLaws
import Derived.Deep.Slices
import Derived.Lib.SmallJoins
import Derived.Laws.IdiomArrays
import Derived.Laws.StructEq
import Derived.ChangeKeysEq
import Derived.Test.YtinfbclgkghgaaaGreatSnupP
/- The layer 11 (ring),plain: what an append leaves on a clean device. -/
namespace Go.Proofs.YtinfbclgkghgaaaGreat.AL
open Go Go.Proofs Go.Proofs.YtinfbclgkghgaaaGreat.AL.Crc
/-- The sectors of both mirrors. -/
structure CellsP (vol:Int) (g:GeoV) (s0:Int) (P:List Pc) (cs:List Cell):Prop where
 used:∀ (i:Nat) (p:Pc),P[i]?=some p→∀ m:Int,(m=0∨m=1)→cs[(q3g g m (x4q g s0 i)).toNat]?=some (z0c (p.sector vol g m).1)
 free:∀ k m:Int,0≤k→k<g.w→(m=0∨m=1)→(∀ i:Nat,i<P.length→x4q g s0 i≠k)→cs[(q3g g m k).toNat]?=some (z0c (U6 vol (q3g g m k).toNat))
theorem u8b (g:GeoV)(k:Int):q3g g 0 k=4+k:=by unfold q3g;omega
theorem u8c (g:GeoV)(k:Int):q3g g 1 k=4+g.w+k:=by unfold q3g;omega
theorem w4v {p:Pc}{vol:Int}{g:GeoV}{m:Int}(hp:p.may=true)(hg:g.may=true)(hv:Y1 vol=true)(m0:0≤m)(m2:m<2):(p.sector vol g m).1.length=256:=by
 rw[(y5v hp hg hv m0 m2).1]
 have:=w6j hp
 show (J9 _).length=256
 rw[q6g,q9k _ (by show (pcB p).length≤228;omega)]
end Go.Proofs.YtinfbclgkghgaaaGreat.AL
namespace Go.Proofs.YtinfbclgkghgaaaGreat.AL
open Go Go.Proofs Go.Proofs.YtinfbclgkghgaaaGreat.AL.Crc
def u8d (s:List Pc):Prop:=s≠[]∧v9i s.length s 0=true∧∀ p∈s,p.of_=s.length
end Go.Proofs.YtinfbclgkghgaaaGreat.AL
namespace Go.Proofs.YtinfbclgkghgaaaGreat.AL
open Go Go.Proofs Go.Proofs.YtinfbclgkghgaaaGreat.AL.Crc
theorem CellsP.all {vol:Int}{g:GeoV}{s0:Int}{P:List Pc}{cs:List Cell}(h:CellsP vol g s0 P cs){k m:Int}(k0:0≤k)(k1:k<g.w)(hm:m=0∨m=1):∃ s,cs[(q3g g m k).toNat]?=some (z0c s):=by
 by_cases e:∃ i:Nat,i<P.length∧x4q g s0 i=k
 ·obtain⟨i,hi,rfl⟩:=e
  exact⟨_,h.used i _ (List.getElem?_eq_getElem hi) m hm⟩
 ·exact⟨_,h.free k m k0 k1 hm fun i hi he=>e ⟨i,hi,he⟩⟩
end Go.Proofs.YtinfbclgkghgaaaGreat.AL
namespace Go.Proofs.YtinfbclgkghgaaaGreat.AL
open Go Go.Proofs Go.Proofs.YtinfbclgkghgaaaGreat.AL.Crc
theorem v0u (n:Nat):y9r (UInt8.ofNat n) (UInt8.ofNat (n / 256)) (UInt8.ofNat (n / 256 ^ 2)) (UInt8.ofNat (n / 256 ^ 3))=BitVec.ofNat 32 n:=by
 apply BitVec.eq_of_getLsbD_eq
 intro i hi
 have h1:i=8*(i / 8)+i % 8:=by omega
 rw[h1,y9s _ _ _ _ (show i / 8<4 by omega) (show i % 8<8 by omega)]
 have key:∀ j,j<4→(wd (UInt8.ofNat (n / 256 ^ j))).getLsbD (i % 8)=(BitVec.ofNat 32 n).getLsbD (8*j+i % 8):=by
  intro j hj
  unfold wd
  rw[BitVec.getLsbD_ofNat,BitVec.getLsbD_ofNat,UInt8.toNat_ofNat',show (256:Nat) ^ j=2 ^ (8*j) by rw[show (256:Nat)=2 ^ 8 from rfl,Nat.pow_mul],show (2:Nat) ^ 8=2 ^ 8 from rfl,Nat.testBit_mod_two_pow,Nat.testBit_div_two_pow,decide_eq_true (show i % 8<32 by omega),decide_eq_true (show i % 8<8 by omega),decide_eq_true (show 8*j+i % 8<32 by omega),Bool.true_and,Bool.true_and,Bool.true_and,Nat.add_comm]
 have h2:i / 8=0∨i / 8=1∨i / 8=2∨i / 8=3:=by omega
 rcases h2 with h|h|h|h <;> rw[h] <;> unfold v7u
 ·have:=key 0 (by omega);rwa [Nat.pow_zero,Nat.div_one]at this
 ·have:=key 1 (by omega);rwa [Nat.pow_one]at this
 ·exact key 2 (by omega)
 ·exact key 3 (by omega)
theorem x0x {p:z7}(hp:q0i p=true):run all1 p=stN 32 all1:=by
 unfold q0i at hp
 split at hp
 ·rename_i h4
  have h4:=of_decide_eq_true h4
  have e:p=p.take (p.length - 4)++leB 4 (sum (p.take (p.length - 4))).toNat:=by
   rw[← eq_of_beq hp,List.take_append_drop]
  generalize p.take (p.length - 4)=m at e
  rw[e,q9i]
  show run (run all1 m) [UInt8.ofNat ((sum m).toNat / 256 ^ 0),UInt8.ofNat ((sum m).toNat / 256 ^ 1),UInt8.ofNat ((sum m).toNat / 256 ^ 2),UInt8.ofNat ((sum m).toNat / 256 ^ 3)]=_
  rw[u7m,Nat.pow_zero,Nat.div_one,Nat.pow_one,v0u,BitVec.ofNat_toNat,BitVec.setWidth_eq]
  congr 1
  show run all1 m ^^^ (run all1 m ^^^ all1)=all1
  rw[← BitVec.xor_assoc,BitVec.xor_self,BitVec.zero_xor]
 ·exact absurd hp (by decide)
def chg (s:z7)(by_:Nat→UInt8)(a:Nat):Nat→z7
 |0=>s
 |k+1=>(chg s by_ a k).set (a+k) ((chg s by_ a k).getD (a+k) 0 ^^^ by_ k)
def chd (by_:Nat→UInt8):Nat→Bool
 |0=>false
 |k+1=>chd by_ k||by_ k != 0
theorem w6w (s:z7)(b:Nat→UInt8)(a:Nat):∀ k,(chg s b a k).length=s.length
 |0=>rfl
 |k+1=>by rw[chg,List.length_set,w6w s b a k]
theorem x4r (l r:z7)(x y:UInt8)(n:Nat)(h:n=l.length):(l++x :: r).set n y=l++y :: r:=by subst h;simp
theorem y2f (l r:z7)(x:UInt8)(n:Nat)(h:n=l.length):(l++x :: r).getD n 0=x:=by subst h;simp
theorem Q1y (l r:z7)(x0 x1 x2 x3:UInt8)(b:Nat→UInt8):chg (l++x0 :: x1 :: x2 :: x3 :: r) b l.length 4=l++(x0 ^^^ b 0) :: (x1 ^^^ b 1) :: (x2 ^^^ b 2) :: (x3 ^^^ b 3) :: r:=by
 have e1:chg (l++x0 :: x1 :: x2 :: x3 :: r) b l.length 1=l++(x0 ^^^ b 0) :: x1 :: x2 :: x3 :: r:=by
  show (l++x0 :: x1 :: x2 :: x3 :: r).set (l.length+0) ((l++x0 :: x1 :: x2 :: x3 :: r).getD (l.length+0) 0 ^^^ b 0)=_
  rw[y2f _ _ _ _ (Nat.add_zero _),x4r _ _ _ _ _ (Nat.add_zero _)]
 have e2:chg (l++x0 :: x1 :: x2 :: x3 :: r) b l.length 2=(l++[x0 ^^^ b 0])++(x1 ^^^ b 1) :: x2 :: x3 :: r:=by
  rw[chg,e1,show l++(x0 ^^^ b 0) :: x1 :: x2 :: x3 :: r=(l++[x0 ^^^ b 0])++x1 :: x2 :: x3 :: r by simp]
  rw[y2f _ _ _ _ (by simp),x4r _ _ _ _ _ (by simp)]
 have e3:chg (l++x0 :: x1 :: x2 :: x3 :: r) b l.length 3=(l++[x0 ^^^ b 0,x1 ^^^ b 1])++(x2 ^^^ b 2) :: x3 :: r:=by
  rw[chg,e2,show (l++[x0 ^^^ b 0])++(x1 ^^^ b 1) :: x2 :: x3 :: r=(l++[x0 ^^^ b 0,x1 ^^^ b 1])++x2 :: x3 :: r by simp]
  rw[y2f _ _ _ _ (by simp),x4r _ _ _ _ _ (by simp)]
 rw[chg,e3,show (l++[x0 ^^^ b 0,x1 ^^^ b 1])++(x2 ^^^ b 2) :: x3 :: r=(l++[x0 ^^^ b 0,x1 ^^^ b 1,x2 ^^^ b 2])++x3 :: r by simp]
 rw[y2f _ _ _ _ (by simp),x4r _ _ _ _ _ (by simp)]
 simp
theorem z9p:∀ l:z7,y8b l l=List.replicate l.length 0
 |[]=>rfl
 |x :: r=>by
  show (x ^^^ x) :: y8b r r=_
  rw[z9p r,UInt8.xor_self];rfl
theorem w1b:∀ (l l' r r':z7),l.length=l'.length→y8b (l++r) (l'++r')=y8b l l'++y8b r r'
 |[],[],r,r',_=>rfl
 |x :: l,y :: l',r,r',h=>by
  show (x ^^^ y) :: y8b (l++r) (l'++r')=_
  rw[w1b l l' r r' (by simpa using h)];rfl
 |[],_ :: _,_,_,h=>by simp at h
 |_ :: _,[],_,_,h=>by simp at h
theorem z7d (x b:UInt8):x ^^^ (x ^^^ b)=b:=by rw[← UInt8.xor_assoc,UInt8.xor_self,UInt8.zero_xor]
theorem v8t {b:Nat→UInt8}(h0:b 0=0)(h1:b 1=0)(h2:b 2=0)(h3:b 3=0):chd b 4=false:=by
 unfold chd chd chd chd chd;rw[h0,h1,h2,h3];rfl
theorem v0v {s:z7}(hs:q0i s=true)(hl:s.length=256)(b:Nat→UInt8){a:Nat}(ha:a≤252)(hp:q0i (chg s b a 4)=true):b 0=0∧b 1=0∧b 2=0∧b 3=0:=by
 obtain⟨l,r,x0,x1,x2,x3,rfl,rfl⟩:∃ l r x0 x1 x2 x3,s=l++x0 :: x1 :: x2 :: x3 :: r∧a=l.length:=by
  have h1:(s.drop a).length=256 - a:=by rw[List.length_drop,hl]
  match hd:s.drop a,h1 with
  |x0 :: x1 :: x2 :: x3 :: r,_=>exact⟨s.take a,r,x0,x1,x2,x3,by rw[← hd,List.take_append_drop],by rw[List.length_take];omega⟩
  |[],h=>simp at h;omega
  |[_],h=>simp at h;omega
  |[_,_],h=>simp at h;omega
  |[_,_,_],h=>simp at h;omega
 have h1:=x0x hs
 have h2:=x0x hp
 rw[Q1y]at h2
 have h3:=x9e (l++x0 :: x1 :: x2 :: x3 :: r) (l++(x0 ^^^ b 0) :: (x1 ^^^ b 1) :: (x2 ^^^ b 2) :: (x3 ^^^ b 3) :: r) all1 all1 (by simp)
 rw[h1,h2,BitVec.xor_self,BitVec.xor_self,w1b _ _ _ _ rfl,z9p]at h3
 have e:y8b (x0 :: x1 :: x2 :: x3 :: r) ((x0 ^^^ b 0) :: (x1 ^^^ b 1) :: (x2 ^^^ b 2) :: (x3 ^^^ b 3) :: r)=[b 0,b 1,b 2,b 3]++List.replicate r.length 0:=by
  show (x0 ^^^ (x0 ^^^ b 0)) :: (x1 ^^^ (x1 ^^^ b 1)) :: (x2 ^^^ (x2 ^^^ b 2)) :: (x3 ^^^ (x3 ^^^ b 3)) :: y8b r r=_
  rw[z7d,z7d,z7d,z7d,z9p];rfl
 rw[e,← List.append_assoc]at h3
 exact w8r h3.symm
end Go.Proofs.YtinfbclgkghgaaaGreat.AL
namespace Go.Proofs.YtinfbclgkghgaaaGreat.AL
open Go Go.Proofs Go.Proofs.YtinfbclgkghgaaaGreat.AL.Crc
theorem LiveP.mono {D:Dev}{N b c:Nat}(h:LiveP D N b)(hc:b≤c):LiveP D N c:=⟨h.ok.mono hc,h.dead,h.waits,h.len,h.well⟩
theorem CleanP.mono {D:Dev}{N b c:Nat}(h:CleanP D N b)(hc:b≤c):CleanP D N c:=⟨h.ok.mono hc,h.dead,h.armed,h.waits,h.len,h.well⟩
def z9q (f:Flt)(c:Cell):Cell:=if f.kind=1 then { c with s:=q5u f c.s 4 } else if f.kind=2 then { c with s:=z3n,lost:=false } else { c with lost:=true }
theorem v6m {D:Dev}{N b:Nat}{f:Flt}(h:CleanP D N b)(h0:0≤f.at_)(h1:f.at_<(N:Int))(k1:1≤f.kind)(k3:f.kind≤3)(o0:0≤f.off)(o1:f.off<256) :
 ∃ E,D.fault f=(0,E)∧CleanP E N (b+1)∧E.cells=D.cells.modify f.at_.toNat (z9q f):=by
 have hok:=h.ok.fault f
 have hh:D.has f.at_=true:=by
  have:=v6k h.len (k:=f.at_.toNat) (by omega)
  rwa [show ((f.at_.toNat:Nat):Int)=f.at_ by omega]at this
 have hm:D.may f=0:=by
  unfold Dev.may
  rw[hh]
  simp only
  rw[decide_eq_false (show ¬ f.kind<1 by omega),decide_eq_false (show ¬ f.kind > 5 by omega),decide_eq_false (show ¬ f.off<0 by omega),decide_eq_false (show ¬ f.off≥256 by omega),show (f.kind==4)=false from beq_eq_false_iff_ne.mpr (by omega),show (f.kind==5)=false from beq_eq_false_iff_ne.mpr (by omega)]
  simp
 have hs:D.settle f.at_=D:=by
  unfold Dev.settle;rw[h.waits]
  obtain⟨c,w,ar,de,le,op⟩:=D
  have hw:w=[]:=h.waits
  subst hw;rfl
 have e:D.fault f=(0,D.upd f.at_ (z9q f)):=by
  unfold Dev.fault;rw[hm]
  show (0,D.hurt f)=_
  unfold Dev.hurt
  rw[hs]
  have hk:f.kind=1∨f.kind=2∨f.kind=3:=by omega
  rcases hk with k|k|k
  ·rw[if_pos k]
   congr 2
   funext c
   unfold z9q;rw[if_pos k]
  ·rw[if_neg (by omega),if_pos k]
   congr 2
   funext c
   unfold z9q;rw[if_neg (by omega),if_pos k]
  ·rw[if_neg (by omega),if_neg (by omega),if_pos k]
   congr 2
   funext c
   unfold z9q;rw[if_neg (by omega),if_neg (by omega)]
 rw[e]at hok
 refine⟨_,e,⟨hok,h.dead,h.armed,h.waits,(List.length_modify ..).trans h.len,?_⟩,rfl⟩
 intro c hc
 have hc:c∈D.cells.modify f.at_.toNat (z9q f):=hc
 obtain⟨i,hi⟩:=List.getElem?_of_mem hc
 rw[List.getElem?_modify]at hi
 cases hx:D.cells[i]? with
 |none=>rw[hx]at hi;simp at hi
 |some c0=>
  rw[hx]at hi
  have hw:=h.well c0 (List.mem_of_getElem? hx)
  have hi:some (if f.at_.toNat=i then z9q f c0 else c0)=some c:=hi
  have hi:=Option.some.inj hi
  subst hi
  split
  ·unfold z9q
   split
   ·exact hw
   ·split
    ·exact hw
    ·exact hw
  ·exact hw
theorem w4w:(U3 z3n).2≠0:=by
 have hk:(z6r z3n).sld.2=1:=by decide +kernel
 intro h
 unfold U3 at h
 split at h
 ·exact absurd h (by decide)
 ·split at h
  ·exact absurd h (by decide)
  ·rw[hk]at h
   exact absurd h (by decide)
theorem w1c (f:Flt)(s:z7)(hl:s.length=256)(h0:0≤f.off)(h1:f.off≤252):∀ k,k≤4→q5u f s k=chg s f.m f.off.toNat k
 |0,_=>rfl
 |k+1,hk=>by
  unfold q5u chg
  rw[w1c f s hl h0 h1 k (by omega),hl,decide_eq_true (show f.off+(k:Int)<((256:Nat):Int) by omega)]
def v6n (c:Cell):z7:=match c.lost with|true=>[]|false=>c.s
theorem v8u {f:Flt}{s:z7}(hw:q0i s=true)(hl:s.length=256)(k1:1≤f.kind)(k3:f.kind≤3)(o0:0≤f.off)(o1:f.off≤252)(hm:f.kind=1→chd f.m 4=true):(U3 (v6n (z9q f (z0c s)))).2≠0:=by
 have hk:f.kind=1∨f.kind=2∨f.kind=3:=by omega
 rcases hk with k|k|k
 ·unfold z9q
  rw[if_pos k]
  show (U3 (q5u f s 4)).2≠0
  rw[w1c f s hl o0 o1 4 (Nat.le_refl _)]
  have hn:q0i (chg s f.m f.off.toNat 4)=false:=by
   cases hq:q0i (chg s f.m f.off.toNat 4) with
   |false=>rfl
   |true=>
    obtain⟨b0,b1,b2,b3⟩:=v0v hw hl f.m (by omega) hq
    have:=hm k
    rw[v8t b0 b1 b2 b3]at this
    exact absurd this (by decide)
  have ho:(U3 (chg s f.m f.off.toNat 4)).2=7:=by
   unfold U3
   rw[w6w,hl,hn];rfl
  rw[ho];decide
 ·unfold z9q
  rw[if_neg (by omega),if_pos k]
  exact w4w
 ·unfold z9q
  rw[if_neg (by omega),if_neg (by omega)]
  show (U3 []).2≠0
  decide
theorem z1u (D:Dev)(k:Nat){c:Cell}(h:D.cells[k]?=some c):q5k D k=v6n c:=by
 unfold q5k v6n;rw[h] <;> rfl
theorem w4x {v:Int}(hv:Y1 v=true){k:Nat}(hk:k≤4294967295):q0i (U6 v k)=true∧(U6 v k).length=256:=by
 obtain⟨e1,_,e3⟩:=z9n v hv k hk
 exact⟨by rw[e1];exact q9m _,e3⟩
theorem x4s {p:Pc}{vol:Int}{g:GeoV}{m:Int}(hp:p.may=true)(hg:g.may=true)(hv:Y1 vol=true)(m0:0≤m)(m2:m<2):q0i (p.sector vol g m).1=true∧(p.sector vol g m).1.length=256:=
 ⟨by rw[(y5v hp hg hv m0 m2).1];exact q9m _,w4v hp hg hv m0 m2⟩
theorem CellsP.whole {vol:Int}{g:GeoV}{s0:Int}{P:List Pc}{cs:List Cell}(h:CellsP vol g s0 P cs)(hg:g.may=true)(hv:Y1 vol=true)(hp:∀ (i:Nat) (p:Pc),P[i]?=some p→p.may=true){k m:Int}(k0:0≤k)(k1:k<g.w)(hm:m=0∨m=1) :
 ∃ s,cs[(q3g g m k).toNat]?=some (z0c s)∧q0i s=true∧s.length=256:=by
 obtain⟨g1,g2,_⟩:=g.of_may hg
 by_cases e:∃ i:Nat,i<P.length∧x4q g s0 i=k
 ·obtain⟨i,hi,rfl⟩:=e
  obtain⟨a,b⟩:=x4s (hp i _ (List.getElem?_eq_getElem hi)) hg hv (m:=m) (by omega) (by omega)
  exact⟨_,h.used i _ (List.getElem?_eq_getElem hi) m hm,a,b⟩
 ·have hk:(q3g g m k).toNat≤4294967295:=by
   rcases hm with rfl|rfl
   ·rw[u8b];omega
   ·rw[u8c];omega
  obtain⟨a,b⟩:=w4x hv hk
  exact⟨_,h.free k m k0 k1 hm fun i hi he=>e ⟨i,hi,he⟩,a,b⟩
end Go.Proofs.YtinfbclgkghgaaaGreat.AL
namespace Go.Proofs.YtinfbclgkghgaaaGreat.AL
open Go Go.Proofs Go.Proofs.YtinfbclgkghgaaaGreat.AL.Crc
theorem z7e {N:Nat}:∀ (ps:List Put9) {D:Dev} {b:Nat} (m:Int),(∀ p∈ps,u1b N p)→CleanP D N b →
 ∃ E m',q6b w4q ps D m=(0,(E,m'))∧CleanP E N (b+ps.length)∧E.cells=q7b ps D.cells
 |[],D,b,m,_,h=>⟨D,m,rfl,h,rfl⟩
 |p :: r,D,b,m,hp,h=>by
  obtain⟨h0,h1,h2⟩:=hp p (by simp)
  have hk:((p.at_.toNat:Nat):Int)=p.at_:=by omega
  obtain⟨E,g1,g2,g3⟩:=w4t h (k:=p.at_.toNat) (by omega) h2
  rw[hk]at g1
  have eg:w4q D m p.at_ p.s=(0,(E,v0i 0 m)):=by unfold w4q;rw[g1]
  obtain⟨F,m',k1,k2,k3⟩:=z7e r (v0i 0 m) (fun q hq=>hp q (by simp[hq])) g2
  refine⟨F,m',?_,by rw[List.length_cons,show b+(r.length+1)=b+1+r.length by omega];exact k2,by rw[k3,g3];rfl⟩
  rw[y6g,eg];exact k1
theorem w4y {N:Nat}(ps:List Put9){D:Dev}{b:Nat}(hp:∀ p∈ps,u1b N p)(h:CleanP D N b):∃ E,D.all9 ps=(0,E)∧CleanP E N (b+ps.length)∧E.cells=q7b ps D.cells:=by
 obtain⟨E,m',h1,h2,h3⟩:=z7e ps 0 hp h
 exact⟨E,by unfold Dev.all9;rw[h1],h2,h3⟩
theorem x0y {ps:List Put9}{base:Nat}(hb:∀ (t:Nat) (x:Put9),ps[t]?=some x→x.at_=((base+t:Nat):Int)){cs:List Cell}(hl:base+ps.length≤cs.length):∀ j,j≤ps.length →
 (∀ (t:Nat) (x:Put9),ps[t]?=some x→(q7b (ps.take j) cs)[base+t]?=if t<j then some (z0c x.s) else cs[base+t]?)∧∀ a,(a<base∨base+ps.length≤a)→(q7b (ps.take j) cs)[a]?=cs[a]?
 |0,_=>⟨fun t x _=>by rw[if_neg (by omega)];rfl,fun a _=>rfl⟩
 |j+1,hj=>by
  obtain⟨h1,h2⟩:=x0y hb hl j (by omega)
  have hx:=List.getElem?_eq_getElem (show j<ps.length by omega)
  generalize ps[j]=y at hx
  have hy:=hb j y hx
  have e:q7b (ps.take (j+1)) cs=(q7b (ps.take j) cs).set (base+j) (z0c y.s):=by
   rw[List.take_add_one,hx,v0t]
   show (q7b (ps.take j) cs).set y.at_.toNat (z0c y.s)=_
   rw[hy,Int.toNat_natCast]
  have hlen:=x0u (ps.take j) cs
  rw[e]
  refine⟨fun t x ht=>?_,fun a ha=>?_⟩
  ·rw[List.getElem?_set]
   by_cases et:j=t
   ·subst et
    rw[hx]at ht
    obtain rfl:=Option.some.inj ht
    rw[if_pos rfl,if_pos (by omega),if_pos (by omega)]
   ·rw[if_neg (by omega),h1 t x ht]
    by_cases e2:t<j
    ·rw[if_pos e2,if_pos (by omega)]
    ·rw[if_neg e2,if_neg (by omega)]
  ·rw[List.getElem?_set,if_neg (by omega)]
   exact h2 a ha
structure SnapG (vol:Int) (g:GeoV) (area epoch no:Int) (k m S:Nat):Prop where
 may:g.may=true
 hk:g.k=k
 hm:g.m=m
 hs:g.s=S
 a0:0≤area
 a1:area≤1
 word:U5 [vol,epoch,no]=true
def GeoV.base (g:GeoV)(area:Int):Nat:=(4+2*g.w+area*(g.s*(g.k+g.m))).toNat
variable {vol:Int} {g:GeoV} {area epoch no:Int} {k m S:Nat}
theorem SnapG.first (h:SnapG vol g area epoch no k m S){s:Nat}(hs:s<S):W6 g area s:=⟨h.may,h.a0,h.a1,by omega,by have:=h.hs;omega⟩
theorem SnapG.nat (h:SnapG vol g area epoch no k m S):1≤S∧S≤32∧1≤k∧k≤16∧1≤m∧m≤8:=by
 obtain⟨h1,h2,h3,h4,h5,h6,h7,h8⟩:=U2 (J5 h.may)
 have:=h.hk;have:=h.hm;have:=h.hs
 omega
theorem SnapG.base0 (h:SnapG vol g area epoch no k m S):0≤4+2*g.w+area*(g.s*(g.k+g.m))∧area*(g.s*(g.k+g.m))=area*((S*(k+m):Nat):Int):=by
 obtain⟨h1,h2,h3,h4,h5,h6,h7,h8⟩:=U2 (J5 h.may)
 have e:g.s*(g.k+g.m)=((S*(k+m):Nat):Int):=by rw[h.hk,h.hm,h.hs];simp
 rw[e]
 have:0≤area*((S*(k+m):Nat):Int):=Int.mul_nonneg h.a0 (by omega)
 exact⟨by omega,rfl⟩
theorem SnapG.at_ (h:SnapG vol g area epoch no k m S)(s:Nat):g.at_ area s=((g.base area+s*(k+m):Nat):Int):=by
 obtain⟨b0,_⟩:=h.base0
 unfold GeoV.at_ GeoV.base
 rw[Int.add_mul,Int.mul_assoc,Int.natCast_add,Int.toNat_of_nonneg b0,h.hk,h.hm,h.hs]
 simp only[Int.natCast_mul,Int.natCast_add]
 omega
theorem SnapG.fits (h:SnapG vol g area epoch no k m S):g.base area+S*(k+m)≤g.secs∧g.secs≤4096:=by
 obtain⟨b0,b1⟩:=h.base0
 obtain⟨q1,q2,_⟩:=x4p h.may
 have e:2*g.s*(g.k+g.m)=2*((S*(k+m):Nat):Int):=by rw[h.hk,h.hm,h.hs,Int.mul_assoc];simp
 rw[e]at q1
 have ha:area=0∨area=1:=by have:=h.a0;have:=h.a1;omega
 refine⟨?_,q2⟩
 unfold GeoV.base
 rw[b1]
 generalize S*(k+m)=n at *
 rcases ha with rfl|rfl
 ·rw[Int.zero_mul];omega
 ·rw[Int.one_mul];omega
theorem z4m {S n s i:Nat}(hs:s<S)(hi:i<n):s*n+i<S*n:=by
 have:=Nat.mul_le_mul_right n (show s+1≤S from hs)
 rw[Nat.succ_mul]at this
 omega
theorem w4z {P:z7}{k m S s:Nat}(hP:P.length=228*(S*k))(hs:s<S):∀ x∈Y8 P k m s,x.length=228:=fun x hx=>by
 have hr:228*((s+1)*k)≤P.length:=by rw[hP];exact Nat.mul_le_mul_left 228 (Nat.mul_le_mul_right k hs)
 unfold Y8 at hx
 rcases List.mem_append.mp hx with h|h
 ·exact q5i hr _ h
 ·unfold q4b at h
  rw[List.mem_map]at h
  obtain⟨a,_,rfl⟩:=h
  exact Q9 a (q5i hr) (Nat.le_refl _)
theorem z9r {P:z7}{k m S s i:Nat}(hP:P.length=228*(S*k))(hs:s<S)(hi:i<k+m):((Y8 P k m s).getD i []).length=228:=by
 rw[List.getD_eq_getElem?_getD,List.getElem?_eq_getElem (by rw[q5j];exact hi)]
 exact w4z hP hs _ (List.getElem_mem _)
theorem w5a {a b c:Int}(h:U5 [a,b,c]=true):Y1 a=true∧Y1 b=true∧Y1 c=true:=by
 unfold U5 at h
 simp only[List.all_cons,List.all_nil,Bool.and_true,Bool.and_eq_true,decide_eq_true_eq]at h
 unfold Y1
 simp only[Bool.and_eq_true,decide_eq_true_eq]
 exact⟨h.1,h.2.1,h.2.2⟩
abbrev w5b (vol:Int)(g:GeoV)(area epoch no:Int)(P:z7)(k m s i:Nat):Blk:=⟨4,vol,g.at_ area s+i,epoch,no,(Y8 P k m s).getD i []⟩
abbrev w5c (vol:Int)(g:GeoV)(area epoch no:Int)(P:z7)(k m s i:Nat):z7:=(v6f vol g area epoch no (Y8 P k m s) s i).s
theorem SnapG.sector (h:SnapG vol g area epoch no k m S){P:z7}(hP:P.length=228*(S*k)){s i:Nat}(hs:s<S)(hi:i<k+m) :
 (w5c vol g area epoch no P k m s i).length=256∧q0i (w5c vol g area epoch no P k m s i)=true∧U3 (w5c vol g area epoch no P k m s i)=(w5b vol g area epoch no P k m s i,0):=by
 obtain⟨f1,f2⟩:=h.fits
 obtain⟨w1,w2,w3⟩:=w5a h.word
 have hlt:=z4m hs hi
 have hl:=z9r (m:=m) hP hs hi
 have hn:(w5b vol g area epoch no P k m s i).nums=true:=by
  have w4:Y1 (g.at_ area s+i)=true:=by
   rw[h.at_ s]
   unfold Y1
   simp only[Bool.and_eq_true,decide_eq_true_eq]
   omega
  show (decide ((4:Int)≥1)&&decide ((4:Int)≤4)&&[vol,g.at_ area s+i,epoch,no].all Y1)=true
  simp only[List.all_cons,List.all_nil,w1,w2,w3,w4]
  rfl
 have e:(w5b vol g area epoch no P k m s i).sld=(J9 (w5b vol g area epoch no P k m s i).all,0):=by
  unfold Blk.sld;rw[hn,decide_eq_false (show ¬ ((Y8 P k m s).getD i []).length > 228 by omega)]
 have es:w5c vol g area epoch no P k m s i=J9 (w5b vol g area epoch no P k m s i).all:=by
  show (w5b vol g area epoch no P k m s i).sld.1=_
  rw[e]
 have hall:=q9k (w5b vol g area epoch no P k m s i) (by show ((Y8 P k m s).getD i []).length≤228;omega)
 rw[es]
 exact⟨by rw[q6g,hall],q9m _,z9e hn (by show ((Y8 P k m s).getD i []).length≤228;omega)⟩
theorem SnapG.kept (h:SnapG vol g area epoch no k m S){P:z7}(hP:P.length=228*(S*k)){s i:Nat}(hs:s<S)(hi:i<k+m) :
 q1v vol (g.at_ area s) no i (w5c vol g area epoch no P k m s i)=(Y8 P k m s).getD i []:=by
 unfold q1v
 rw[(h.sector hP hs hi).2.2]
 have hl:=z9r (m:=m) hP hs hi
 simp only[beq_self_eq_true,Bool.true_and,Bool.and_true]
 rw[show ((((Y8 P k m s).getD i []).length:Int)==228)=true from by rw[hl];rfl]
theorem z3a {P:z7}:∀ S' s i,s<S'→i<k+m→(q0r vol g area epoch no P k m S')[s*(k+m)+i]?=some (v6f vol g area epoch no (Y8 P k m s) s i)
 |0,s,i,hs,_=>by omega
 |S'+1,s,i,hs,hi=>by
  have hl:=q2e (vol:=vol) (g:=g) (area:=area) (epoch:=epoch) (no:=no) (P:=P) (k:=k) (m:=m) S'
  unfold q0r
  by_cases e:s<S'
  ·rw[List.getElem?_append_left (by rw[hl];exact z4m e hi)]
   exact z3a S' s i e hi
  ·have e:s=S':=by omega
   subst e
   rw[List.getElem?_append_right (by rw[hl];omega),hl,Nat.add_sub_cancel_left]
   unfold q3b
   rw[List.getElem?_map,List.getElem?_range (by rw[q5j];exact hi)];rfl
theorem x0z {n t:Nat}(_hn:0<n):t=(t / n)*n+t % n:=by
 have:=Nat.div_add_mod t n
 rw[Nat.mul_comm]at this
 omega
theorem SnapG.puts_at (h:SnapG vol g area epoch no k m S){P:z7}{t:Nat}{x:Put9}(ht:(q0r vol g area epoch no P k m S)[t]?=some x):x.at_=((g.base area+t:Nat):Int):=by
 obtain⟨_,_,k1,_,_,_⟩:=h.nat
 have hlt:t<S*(k+m):=by have:=(List.getElem?_eq_some_iff.1 ht).1;rwa [q2e]at this
 have hn:0<k+m:=by omega
 have e:=x0z (t:=t) hn
 have hs:t / (k+m)<S:=Nat.div_lt_of_lt_mul (by rw[Nat.mul_comm];exact hlt)
 have hi:t % (k+m)<k+m:=Nat.mod_lt _ hn
 have:=z3a (vol:=vol) (g:=g) (area:=area) (epoch:=epoch) (no:=no) (P:=P) S _ _ hs hi
 rw[← e,ht]at this
 rw[Option.some.inj this]
 show g.at_ area ((t / (k+m):Nat):Int)+((t % (k+m):Nat):Int)=_
 rw[h.at_]
 omega
theorem SnapG.puts_ok (h:SnapG vol g area epoch no k m S){P:z7}(hP:P.length=228*(S*k)):∀ p∈q0r vol g area epoch no P k m S,u1b g.secs p:=fun p hp=>by
 obtain⟨t,ht⟩:=List.getElem?_of_mem hp
 obtain⟨_,_,k1,_,_,_⟩:=h.nat
 have hlt:t<S*(k+m):=by have:=(List.getElem?_eq_some_iff.1 ht).1;rwa [q2e]at this
 have hn:0<k+m:=by omega
 have e:=x0z (t:=t) hn
 have hs:t / (k+m)<S:=Nat.div_lt_of_lt_mul (by rw[Nat.mul_comm];exact hlt)
 have hi:t % (k+m)<k+m:=Nat.mod_lt _ hn
 have hg:=z3a (vol:=vol) (g:=g) (area:=area) (epoch:=epoch) (no:=no) (P:=P) S _ _ hs hi
 rw[← e,ht]at hg
 have hat:=h.puts_at ht
 obtain⟨f1,f2⟩:=h.fits
 refine⟨by omega,by omega,?_⟩
 rw[Option.some.inj hg]
 exact(h.sector hP hs hi).1
theorem SnapG.cells (h:SnapG vol g area epoch no k m S){P:z7}{cs:List Cell}(hl:cs.length=g.secs){j:Nat}(hj:j≤S*(k+m)) :
 (∀ s i,s<S→i<k+m→(q7b ((q0r vol g area epoch no P k m S).take j) cs)[g.base area+(s*(k+m)+i)]?=if s*(k+m)+i<j then some (z0c (w5c vol g area epoch no P k m s i)) else cs[g.base area+(s*(k+m)+i)]?) ∧
 ∀ a,(a<g.base area∨g.base area+S*(k+m)≤a)→(q7b ((q0r vol g area epoch no P k m S).take j) cs)[a]?=cs[a]?:=by
 obtain⟨f1,f2⟩:=h.fits
 have hlen:=q2e (vol:=vol) (g:=g) (area:=area) (epoch:=epoch) (no:=no) (P:=P) (k:=k) (m:=m) S
 obtain⟨h1,h2⟩:=x0y (ps:=q0r vol g area epoch no P k m S) (base:=g.base area) (fun t x ht=>h.puts_at ht) (cs:=cs) (by rw[hlen];omega) j (by omega)
 rw[hlen]at h2
 exact⟨fun s i hs hi=>h1 _ _ (z3a S s i hs hi),h2⟩
theorem w5d {D:Dev}{N b:Nat}(h:CleanP D N b){A:Nat}:∀ n,A+n≤N→(D.reads A n).1=(List.range n).map (fun i=>q5k D (A+i))∧CleanP (D.reads A n).2 N b∧(D.reads A n).2.cells=D.cells
 |0,_=>⟨rfl,h,rfl⟩
 |n+1,hk=>by
  obtain⟨h1,h2,h3⟩:=w5d h (A:=A) n (by omega)
  obtain⟨r1,r2,r3⟩:=u8a h2 (show A+n<N by omega)
  have ec:((A+n:Nat):Int)=(A:Int)+n:=by omega
  rw[ec]at r1 r2
  refine⟨?_,?_,?_⟩
  ·show (D.reads A n).1++[((D.reads A n).2.read ((A:Int)+n)).1.1]=_
   rw[h1,r1,List.range_succ,List.map_append]
   unfold q5k
   rw[h3];rfl
  ·show CleanP ((D.reads A n).2.read ((A:Int)+n)).2 N b
   rw[r2];exact r3
  ·show ((D.reads A n).2.read ((A:Int)+n)).2.cells=_
   rw[r2];exact h3
def q9y (vol:Int)(g:GeoV)(area no:Int)(n:Nat)(E:Dev)(s:Nat):List z7:=(List.range n).map fun i=>q1v vol (g.at_ area s) no i (q5k E (g.base area+(s*n+i)))
def z0d (vol:Int)(g:GeoV)(area no:Int)(k m:Nat)(E:Dev)(s:Nat):Bool:=decide ((X2 (q9y vol g area no (k+m) E s) k (k+m)).length<k)
structure TrueP (vol:Int) (g:GeoV) (area epoch no:Int) (P:z7) (k m S:Nat) (E:Dev):Prop where
 all:∀ s i,s<S→i<k+m→q1v vol (g.at_ area s) no i (q5k E (g.base area+(s*(k+m)+i)))=[]∨q1v vol (g.at_ area s) no i (q5k E (g.base area+(s*(k+m)+i)))=(Y8 P k m s).getD i []
theorem z9s {vol:Int}{g:GeoV}{area no:Int}{n:Nat}{E:Dev}{s i:Nat}(hi:i<n):(q9y vol g area no n E s).getD i []=q1v vol (g.at_ area s) no i (q5k E (g.base area+(s*n+i))):=by
 unfold q9y
 rw[List.getD_eq_getElem?_getD,List.getElem?_map,List.getElem?_range hi];rfl
theorem v6p (h:SnapG vol g area epoch no k m S){P:z7}(hP:P.length=228*(S*k)){E:Dev}{b:Nat}(hE:CleanP E g.secs b)(hT:TrueP vol g area epoch no P k m S E){s:Nat}(hs:s<S) :
 J1 (E.reads (g.at_ area s) (k+m)).1 vol g area s no=match z0d vol g area no k m E s with|true=>([],22)|false=>(Y8 P k m s,0):=by
 obtain⟨n1,n2,n3,n4,n5,n6⟩:=h.nat
 obtain⟨f1,f2⟩:=h.fits
 have hlt:=z4m (n:=k+m) (i:=k+m - 1) hs (by omega)
 obtain⟨r1,_,_⟩:=w5d hE (A:=g.base area+s*(k+m)) (k+m) (by omega)
 rw[h.at_ s,r1]
 have hL:q4g vol (g.at_ area s) no ((List.range (k+m)).map fun i=>q5k E (g.base area+s*(k+m)+i))=q9y vol g area no (k+m) E s:=by
  unfold q4g q9y
  rw[List.length_map,List.length_range]
  refine List.map_congr_left fun i hi=>?_
  rw[List.getD_eq_getElem?_getD,List.getElem?_map,List.getElem?_range (List.mem_range.mp hi)]
  show q1v vol (g.at_ area s) no i (q5k E (g.base area+s*(k+m)+i))=_
  rw[Nat.add_assoc]
 have hw:U5 [vol,no]=true:=by
  obtain⟨w1,_,w3⟩:=w5a h.word
  unfold U5
  unfold Y1 at w1 w3
  simp only[List.all_cons,List.all_nil,Bool.and_true,Bool.and_eq_true,decide_eq_true_eq]at *
  omega
 unfold J1
 rw[q1m (h.first hs),hw,show (((((List.range (k+m)).map fun i=>q5k E (g.base area+s*(k+m)+i)).length:Nat):Int)==g.k+g.m)=true from by rw[List.length_map,List.length_range,h.hk,h.hm];exact beq_iff_eq.mpr (by omega),hL]
 show (match (q7x (q9y vol g area no (k+m) E s) g.k.toNat g.m.toNat 228).2 != 0 with|true=>(([],22):List z7 × Int)|false=>_)=_
 rw[h.hk,h.hm,Int.toNat_natCast,Int.toNat_natCast]
 cases hf:z0d vol g area no k m E s with
 |true=>
  unfold z0d at hf
  unfold q7x
  rw[hf];rfl
 |false=>
  unfold z0d at hf
  have hr:228*((s+1)*k)≤P.length:=by rw[hP];exact Nat.mul_le_mul_left 228 (Nat.mul_le_mul_right k hs)
  have hd:=v0f (S:=q9y vol g area no (k+m) E s) (k:=k) (m:=m) (c:=228) (by omega) (by decide) (q1u P k s) (q5i hr) (fun i hi h0=>by
   rw[z9s hi]at h0 ⊢
   rcases hT.all s i hs hi with e|e
   ·rw[e]at h0;simp at h0
   ·exact e) (of_decide_eq_false hf)
  rw[hd];rfl
theorem w6x (h:SnapG vol g area epoch no k m S){P:z7}(hP:P.length=228*(S*k)){E:Dev}{b:Nat}(hE:CleanP E g.secs b)(hT:TrueP vol g area epoch no P k m S E):∀ s,s≤S →
 ∃ E',CleanP E' g.secs b∧E'.cells=E.cells∧E.snapN vol g area no s=match (List.range s).any (z0d vol g area no k m E) with|true=>([],22,E')|false=>(P.take (228*(s*k)),0,E')
 |0,_=>⟨E,hE,rfl,by show (([],0,E):y6h)=(P.take (228*(0*k)),0,E);rw[Nat.zero_mul,Nat.mul_zero,List.take_zero]⟩
 |s+1,hs=>by
  obtain⟨E',c1,c2,c3⟩:=w6x h hP hE hT s (by omega)
  have hT':TrueP vol g area epoch no P k m S E':=⟨fun s i hs hi=>by
   have:=hT.all s i hs hi
   unfold q5k at this ⊢
   rw[c2];exact this⟩
  have hfew:z0d vol g area no k m E' s=z0d vol g area no k m E s:=by
   unfold z0d q9y q5k;rw[c2]
  have hst:=v6p h hP c1 hT' (show s<S by omega)
  rw[hfew]at hst
  obtain⟨f1,f2⟩:=h.fits
  obtain⟨n1,n2,n3,n4,n5,n6⟩:=h.nat
  have hlt:=z4m (n:=k+m) (i:=k+m - 1) (show s<S by omega) (by omega)
  obtain⟨_,r2,r3⟩:=w5d c1 (A:=g.base area+s*(k+m)) (k+m) (by omega)
  rw[← h.at_ s]at r2 r3
  show ∃ E',_∧_∧q1w vol g area no s (E.snapN vol g area no s)=_
  rw[c3,List.range_succ,List.any_append,List.any_cons,List.any_nil,Bool.or_false]
  cases ha:(List.range s).any (z0d vol g area no k m E) with
  |true=>exact⟨E',c1,c2,rfl⟩
  |false=>
   refine⟨_,r2,r3.trans c2,?_⟩
   show (match (J1 (E'.reads (g.at_ area s) (g.k.toNat+g.m.toNat)).1 vol g area s no).2 != 0 with|true=>(_:y6h)|false=>_)=_
   rw[h.hk,h.hm,Int.toNat_natCast,Int.toNat_natCast,hst]
   cases z0d vol g area no k m E s with
   |true=>rfl
   |false=>
    show ((P.take (228*(s*k))++((Y8 P k m s).take k).flatten,0,(E'.reads (g.at_ area s) (k+m)).2):y6h)=(P.take (228*((s+1)*k)),0,(E'.reads (g.at_ area s) (k+m)).2)
    have hfl:∀ j,j≤k→((V2 P k s).take j).flatten=(P.drop (228*(s*k))).take (228*j):=by
     intro j
     induction j with
     |zero=>intro _;rfl
     |succ j ih=>
      intro hj
      rw[List.take_add_one,z1r (show j<k by omega),List.flatten_append,ih (by omega)]
      show _++[z9k P (s*k+j)].flatten=_
      rw[List.flatten_singleton]
      unfold z9k
      rw[show 228*(j+1)=228*j+228 by omega,List.take_add,List.drop_drop,show 228*(s*k)+228*j=228*(s*k+j) by rw[Nat.mul_add]]
    have e1:(Y8 P k m s).take k=V2 P k s:=by unfold Y8;rw[List.take_left' (q1u P k s)]
    have e2:=hfl k (Nat.le_refl _)
    rw[List.take_of_length_le (by rw[q1u];exact Nat.le_refl _)]at e2
    rw[e1,e2,show 228*((s+1)*k)=228*(s*k)+228*k by rw[Nat.add_mul s 1 k,Nat.one_mul,Nat.mul_add],List.take_add]
theorem y6j (h:SnapG vol g area epoch no k m S){P:z7}(hP:P.length=228*(S*k)){E:Dev}{b:Nat}(hE:CleanP E g.secs b)(hT:TrueP vol g area epoch no P k m S E){long:Int}(l0:0≤long)(l1:long≤g.room) :
 ∃ E',CleanP E' g.secs b∧E'.cells=E.cells∧E.snapRead vol g area no long=match (List.range S).any (z0d vol g area no k m E) with|true=>(([],22),E')|false=>((P.take long.toNat,0),E'):=by
 obtain⟨n1,n2,n3,n4,n5,n6⟩:=h.nat
 obtain⟨E',c1,c2,c3⟩:=w6x h hP hE hT S (Nat.le_refl _)
 refine⟨E',c1,c2,?_⟩
 have hw:U5 [vol,no]=true:=by
  obtain⟨w1,_,w3⟩:=w5a h.word
  unfold U5
  unfold Y1 at w1 w3
  simp only[List.all_cons,List.all_nil,Bool.and_true,Bool.and_eq_true,decide_eq_true_eq]at *
  omega
 unfold Dev.snapRead
 rw[show W5 g area 0=(g.at_ area 0,0) from q1m (h.first (s:=0) (by omega)),hw,decide_eq_false (show ¬ long<0 by omega),decide_eq_false (show ¬ long > g.room by omega),hE.dead,h.hs,Int.toNat_natCast,c3]
 show (match (match (List.range S).any (z0d vol g area no k m E) with|true=>(([],22,E'):y6h)|false=>(P.take (228*(S*k)),0,E')).2.1 != 0 with|true=>(_:(z7 × Int) × Dev)|false=>_)=_
 cases (List.range S).any (z0d vol g area no k m E) with
 |true=>rfl
 |false=>
  show (((P.take (228*(S*k))).take long.toNat,0),E')=_
  rw[show P.take (228*(S*k))=P from List.take_of_length_le (by omega)]
end Go.Proofs.YtinfbclgkghgaaaGreat.AL
namespace Go.Proofs.YtinfbclgkghgaaaGreat.AL
open Go Go.Proofs Go.Proofs.YtinfbclgkghgaaaGreat.AL.Crc
def x4t (S:List z7):Nat→Nat
 |0=>0
 |i+1=>x4t S i+(if 0<(S.getD i []).length then 1 else 0)
theorem x1a (S:List z7)(most:Nat):∀ i,(X2 S most i).length=min most (x4t S i)
 |0=>by show 0=min most 0;omega
 |i+1=>by
  have ih:=x1a S most i
  unfold x4t
  cases h:pkd S most i with
  |true=>
   rw[(q5v h).1,List.length_append,List.length_singleton]
   unfold pkd at h
   rw[Bool.and_eq_true,decide_eq_true_eq,decide_eq_true_eq]at h
   rw[if_pos h.2];omega
  |false=>
   rw[(q7a h).1]
   unfold pkd at h
   rw[Bool.and_eq_false_iff,decide_eq_false_iff_not,decide_eq_false_iff_not]at h
   rcases h with h|h
   ·split <;> omega
   ·rw[if_neg h];omega
theorem w6y {vol:Int}{g:GeoV}{area no:Int}{k m:Nat}{E:Dev}{s:Nat}:z0d vol g area no k m E s=decide (x4t (q9y vol g area no (k+m) E s) (k+m)<k):=by
 unfold z0d
 rw[x1a]
 by_cases h:x4t (q9y vol g area no (k+m) E s) (k+m)<k
 ·rw[decide_eq_true h,decide_eq_true (by omega)]
 ·rw[decide_eq_false h,decide_eq_false (by omega)]
theorem v0w {s:z7}(h:(U3 s).2≠0)(vol a no:Int)(i:Nat):q1v vol a no i s=[]:=by
 unfold q1v
 rw[show ((U3 s).2==0)=false from beq_eq_false_iff_ne.mpr h];rfl
theorem w5e {v:Int}(hv:Y1 v=true){x:Nat}(hx:x≤4294967295)(vol a no:Int)(i:Nat):q1v vol a no i (U6 v x)=[]:=by
 obtain⟨e1,e2,_⟩:=z9n v hv x hx
 unfold q1v
 rw[e1,e2]
 rfl
abbrev flA (f:Flt)(a:Int):Flt:={ f with at_:=a,n:=0,to:=0 }
def q7c (f:Flt)(base:Nat)(h:List Bool)(D:Dev):Nat→Dev
 |0=>D
 |t+1=>match h.getD t false with
  |true=>((q7c f base h D t).fault (flA f ((base+t:Nat):Int))).2
  |false=>q7c f base h D t
theorem x4u {D:Dev}{N b:Nat}{f:Flt}(hD:CleanP D N b)(k1:1≤f.kind)(k3:f.kind≤3)(o0:0≤f.off)(o1:f.off<256){base:Nat}(h:List Bool):∀ t,base+t≤N →
 CleanP (q7c f base h D t) N (b+t)∧∀ a,(q7c f base h D t).cells[a]?=if base≤a∧a<base+t∧h.getD (a - base) false=true then (D.cells[a]?).map (z9q f) else D.cells[a]?
 |0,_=>⟨hD,fun a=>by rw[if_neg (by omega)];rfl⟩
 |t+1,ht=>by
  obtain⟨c,r⟩:=x4u hD k1 k3 o0 o1 (base:=base) h t (by omega)
  unfold q7c
  cases hh:h.getD t false with
  |false=>
   refine⟨c.mono (by omega),fun a=>?_⟩
   show (q7c f base h D t).cells[a]?=_
   rw[r a]
   by_cases e:a=base+t
   ·subst e
    rw[Nat.add_sub_cancel_left,hh,if_neg (by omega),if_neg (by simp)]
   ·by_cases e2:base≤a∧a<base+t∧h.getD (a - base) false=true
    ·rw[if_pos e2,if_pos ⟨e2.1,by omega,e2.2.2⟩]
    ·rw[if_neg e2,if_neg (fun e3=>e2 ⟨e3.1,by omega,e3.2.2⟩)]
  |true=>
   obtain⟨E,e1,e2,e3⟩:=v6m (f:=flA f ((base+t:Nat):Int)) c (by show (0:Int)≤((base+t:Nat):Int);omega) (by show ((base+t:Nat):Int)<_;omega) k1 k3 o0 o1
   show CleanP ((q7c f base h D t).fault (flA f ((base+t:Nat):Int))).2 N (b+(t+1))∧_
   rw[e1]
   refine⟨e2,fun a=>?_⟩
   show E.cells[a]?=_
   have hat:(flA f ((base+t:Nat):Int)).at_.toNat=base+t:=Int.toNat_natCast _
   rw[e3,List.getElem?_modify,hat,r a]
   by_cases e:base+t=a
   ·subst e
    rw[Nat.add_sub_cancel_left,hh,if_neg (by omega),if_pos ⟨by omega,by omega,rfl⟩]
    cases D.cells[base+t]? with
    |none=>rfl
    |some c=>show some (if base+t=base+t then _ else _)=_;rw[if_pos rfl];rfl
   ·by_cases e2:base≤a∧a<base+t∧h.getD (a - base) false=true
    ·rw[if_pos e2,if_pos ⟨e2.1,by omega,e2.2.2⟩]
     cases D.cells[a]? with
     |none=>rfl
     |some c=>show some (if base+t=a then _ else _)=_;rw[if_neg e];rfl
    ·rw[if_neg e2,if_neg (fun e3=>e2 ⟨e3.1,by omega,e3.2.2⟩)]
     cases D.cells[a]? with
     |none=>rfl
     |some c=>show some (if base+t=a then _ else _)=_;rw[if_neg e]
def q8r (h:List Bool)(s n:Nat):Nat→Nat
 |0=>0
 |i+1=>q8r h s n i+(match h.getD (s*n+i) false with|true=>1|false=>0)
theorem y6k (h:List Bool)(s n:Nat):∀ i,q8r h s n i≤i
 |0=>Nat.le_refl _
 |i+1=>by
  have:=y6k h s n i
  unfold q8r
  split <;> omega
variable {vol:Int} {g:GeoV} {area epoch no:Int} {k m S:Nat}
theorem SnapG.room (h:SnapG vol g area epoch no k m S):g.room=((228*(S*k):Nat):Int):=by
 unfold GeoV.room
 rw[h.may,h.hs,h.hk]
 show (S:Int)*k*228=_
 rw[Int.mul_comm];simp
structure WroteP (vol:Int) (g:GeoV) (area epoch no:Int) (P:z7) (k m S:Nat) (E:Dev):Prop where
 there:∀ s i,s<S→i<k+m→E.cells[g.base area+(s*(k+m)+i)]?=some (z0c (w5c vol g area epoch no P k m s i))
theorem SnapG.putsB (h:SnapG vol g area epoch no k m S){b:z7}(hb:b.length≤228*(S*k)):putsB vol g area epoch no b=(q0r vol g area epoch no (q5w (228*(S*k)) b) k m S,0):=by
 obtain⟨n1,_⟩:=h.nat
 unfold Go.Proofs.YtinfbclgkghgaaaGreat.AL.putsB
 rw[show W5 g area 0=(g.at_ area 0,0) from q1m (h.first (s:=0) (by omega)),h.word,h.room,decide_eq_false (show ¬ (b.length:Int) > ((228*(S*k):Nat):Int) by omega),Int.toNat_natCast,h.hk,h.hm,h.hs,Int.toNat_natCast,Int.toNat_natCast,Int.toNat_natCast]
 rfl
theorem w1d (h:SnapG vol g area epoch no k m S){b:z7}(hb:b.length≤228*(S*k)){D:Dev}{n:Nat}(hD:CleanP D g.secs n) :
 ∃ E,D.snapWrite vol g area epoch no b=(0,E)∧CleanP E g.secs (n+S*(k+m))∧WroteP vol g area epoch no (q5w (228*(S*k)) b) k m S E∧∀ a,(a<g.base area∨g.base area+S*(k+m)≤a)→E.cells[a]?=D.cells[a]?:=by
 have hP:=z1q hb
 obtain⟨E,e1,e2,e3⟩:=w4y _ (h.puts_ok hP) hD
 have hlen:=q2e (vol:=vol) (g:=g) (area:=area) (epoch:=epoch) (no:=no) (P:=q5w (228*(S*k)) b) (k:=k) (m:=m) S
 obtain⟨c1,c2⟩:=h.cells (P:=q5w (228*(S*k)) b) hD.len (Nat.le_refl (S*(k+m)))
 rw[List.take_of_length_le (by omega),← e3]at c1 c2
 refine⟨E,?_,by rw[hlen]at e2;exact e2,⟨fun s i hs hi=>?_⟩,c2⟩
 ·unfold Dev.snapWrite
  rw[h.putsB hb];exact e1
 ·rw[c1 s i hs hi,if_pos (z4m hs hi)]
theorem WroteP.keep {P:z7}{E F:Dev}(h:WroteP vol g area epoch no P k m S E)(he:∀ s i,s<S→i<k+m→F.cells[g.base area+(s*(k+m)+i)]?=E.cells[g.base area+(s*(k+m)+i)]?):WroteP vol g area epoch no P k m S F:=⟨fun s i hs hi=>by rw[he s i hs hi];exact h.there s i hs hi⟩
theorem x1b (h:SnapG vol g area epoch no k m S){P:z7}(hP:P.length=228*(S*k)){E:Dev}{b:Nat}(hE:CleanP E g.secs b)(hW:WroteP vol g area epoch no P k m S E){f:Flt}(k1:1≤f.kind)(k3:f.kind≤3)(o0:0≤f.off)(o1:f.off≤252)(hm:f.kind=1→chd f.m 4=true)(hh:List Bool){s i:Nat}(hs:s<S)(hi:i<k+m) :
 q1v vol (g.at_ area s) no i (q5k (q7c f (g.base area) hh E (S*(k+m))) (g.base area+(s*(k+m)+i)))=match hh.getD (s*(k+m)+i) false with|true=>[]|false=>(Y8 P k m s).getD i []:=by
 obtain⟨f1,f2⟩:=h.fits
 obtain⟨_,r⟩:=x4u hE k1 k3 o0 (by omega) (base:=g.base area) hh (S*(k+m)) f1
 have hlt:=z4m hs hi
 obtain⟨q1,q2,q3⟩:=h.sector hP hs hi
 have hc:=r (g.base area+(s*(k+m)+i))
 rw[hW.there s i hs hi,Nat.add_sub_cancel_left]at hc
 cases hx:hh.getD (s*(k+m)+i) false with
 |true=>
  rw[hx,if_pos ⟨by omega,by omega,rfl⟩]at hc
  rw[z1u _ _ hc]
  exact v0w (v8u q2 q1 k1 k3 o0 o1 hm) _ _ _ _
 |false=>
  rw[hx,if_neg (by simp)]at hc
  rw[z1u _ _ hc]
  exact h.kept hP hs hi
theorem w1e (h:SnapG vol g area epoch no k m S){P:z7}(hP:P.length=228*(S*k)){E:Dev}{b:Nat}(hE:CleanP E g.secs b)(hW:WroteP vol g area epoch no P k m S E){f:Flt}(k1:1≤f.kind)(k3:f.kind≤3)(o0:0≤f.off)(o1:f.off≤252)(hm:f.kind=1→chd f.m 4=true)(hh:List Bool){s:Nat}(hs:s<S) :
 z0d vol g area no k m (q7c f (g.base area) hh E (S*(k+m))) s=decide (m<q8r hh s (k+m) (k+m)):=by
 have hc:∀ i,i≤k+m→x4t (q9y vol g area no (k+m) (q7c f (g.base area) hh E (S*(k+m))) s) i=i - q8r hh s (k+m) i:=by
  intro i
  induction i with
  |zero=>intro _;rfl
  |succ i ih=>
   intro hi
   have hle:=y6k hh s (k+m) i
   unfold x4t q8r
   rw[ih (by omega),z9s (by omega),x1b h hP hE hW k1 k3 o0 o1 hm hh hs (show i<k+m by omega)]
   cases hh.getD (s*(k+m)+i) false with
   |true=>rw[if_neg (by simp)];show _=i+1 - (q8r hh s (k+m) i+1);omega
   |false=>
    rw[if_pos (show 0<((Y8 P k m s).getD i []).length by rw[z9r hP hs (by omega)];decide)]
    show _=i+1 - (q8r hh s (k+m) i+0)
    omega
 have hle:=y6k hh s (k+m) (k+m)
 rw[w6y,hc _ (Nat.le_refl _)]
 by_cases e:m<q8r hh s (k+m) (k+m)
 ·rw[decide_eq_true e,decide_eq_true (by omega)]
 ·rw[decide_eq_false e,decide_eq_false (by omega)]
theorem v0x {n:Nat}{b:z7}:(q5w n b).take b.length=b:=by unfold q5w;rw[List.take_left' rfl]
theorem v0y (h:SnapG vol g area epoch no k m S){b:z7}(hb:b.length≤228*(S*k)){E:Dev}{n:Nat}(hE:CleanP E g.secs n)(hW:WroteP vol g area epoch no (q5w (228*(S*k)) b) k m S E){f:Flt}(k1:1≤f.kind)(k3:f.kind≤3)(o0:0≤f.off)(o1:f.off≤252)(hm:f.kind=1→chd f.m 4=true)(hh:List Bool) :
 ∃ E',CleanP E' g.secs (n+S*(k+m))∧E'.cells=(q7c f (g.base area) hh E (S*(k+m))).cells∧(q7c f (g.base area) hh E (S*(k+m))).snapRead vol g area no b.length=match (List.range S).any (fun s=>decide (m<q8r hh s (k+m) (k+m))) with|true=>(([],22),E')|false=>((b,0),E'):=by
 have hP:=z1q hb
 obtain⟨f1,f2⟩:=h.fits
 obtain⟨c,_⟩:=x4u hE k1 k3 o0 (by omega) (base:=g.base area) hh (S*(k+m)) f1
 have hT:TrueP vol g area epoch no (q5w (228*(S*k)) b) k m S (q7c f (g.base area) hh E (S*(k+m))):=⟨fun s i hs hi=>by
  rw[x1b h hP hE hW k1 k3 o0 o1 hm hh hs hi]
  cases hh.getD (s*(k+m)+i) false with
  |true=>exact .inl rfl
  |false=>exact .inr rfl⟩
 obtain⟨E',r1,r2,r3⟩:=y6j h hP c hT (long:=(b.length:Int)) (by omega) (by rw[h.room];omega)
 refine⟨E',r1,r2,?_⟩
 have hany:(List.range S).any (z0d vol g area no k m (q7c f (g.base area) hh E (S*(k+m))))=(List.range S).any (fun s=>decide (m<q8r hh s (k+m) (k+m))):=by
  rw[Bool.eq_iff_iff,List.any_eq_true,List.any_eq_true]
  constructor
  ·rintro⟨s,hs,e⟩
   rw[w1e h hP hE hW k1 k3 o0 o1 hm hh (List.mem_range.mp hs)]at e
   exact⟨s,hs,e⟩
  ·rintro⟨s,hs,e⟩
   exact⟨s,hs,by rw[w1e h hP hE hW k1 k3 o0 o1 hm hh (List.mem_range.mp hs)];exact e⟩
 rw[r3,hany,Int.toNat_natCast,v0x] <;> (cases (List.range S).any (fun s=>decide (m<q8r hh s (k+m) (k+m))) <;> rfl)
theorem v0z (h:SnapG vol g area epoch no k m S){E:Dev}{n:Nat}(hE:CleanP E g.secs n){v:Int}(hv:Y1 v=true)(hF:∀ a,g.base area≤a→a<g.base area+S*(k+m)→E.cells[a]?=some (z0c (U6 v a))){long:Int}(l0:0≤long)(l1:long≤g.room) :
 ∃ E',CleanP E' g.secs n∧E'.cells=E.cells∧E.snapRead vol g area no long=(([],22),E'):=by
 obtain⟨n1,n2,n3,n4,n5,n6⟩:=h.nat
 obtain⟨f1,f2⟩:=h.fits
 have hk:∀ s i,s<S→i<k+m→q1v vol (g.at_ area s) no i (q5k E (g.base area+(s*(k+m)+i)))=[]:=fun s i hs hi=>by
  have hlt:=z4m hs hi
  rw[z1u _ _ (hF _ (by omega) (by omega))]
  exact w5e hv (by omega) _ _ _ _
 have hP:(List.replicate (228*(S*k)) (0:UInt8)).length=228*(S*k):=List.length_replicate
 obtain⟨E',r1,r2,r3⟩:=y6j h hP hE ⟨fun s i hs hi=>.inl (hk s i hs hi)⟩ l0 l1
 refine⟨E',r1,r2,?_⟩
 have hc:∀ i,i≤k+m→x4t (q9y vol g area no (k+m) E 0) i=0:=by
  intro i
  induction i with
  |zero=>intro _;rfl
  |succ i ih=>
   intro hi
   unfold x4t
   rw[ih (by omega),z9s (by omega),hk 0 i (by omega) (by omega)]
   rfl
 have hany:(List.range S).any (z0d vol g area no k m E)=true:=List.any_eq_true.mpr ⟨0,List.mem_range.mpr (by omega),by rw[w6y,hc _ (Nat.le_refl _)];exact decide_eq_true (by omega)⟩
 rw[r3,hany]
end Go.Proofs.YtinfbclgkghgaaaGreat.AL
namespace Go.Proofs.YtinfbclgkghgaaaGreat.AL
open Go Go.Proofs Go.Proofs.YtinfbclgkghgaaaGreat.AL.Crc
def z7f (g:GeoV):Bool:=decide (g.w≤16)&&decide (g.s≤3)&&decide (g.k≤4)&&decide (g.m≤3)
set_option maxRecDepth 20000 in
theorem w1f (g:GeoV):AF Tryz.prog y6r [g.av] [] (v9 (bl (z7f g)) []):=by
 refine v8 hT y6s rfl rfl y6t rfl ?_
 refine q8 (q7 hT ?_)
 refine Q1 (Q3 0 g.pv rfl rfl) ?_
 unfold z7f
 refine q8 (q7 hT ?_)
 refine y4 (fun h=>?_) (fun h=>?_)
 ·rw[show decide (g.w≤16)=true from h]
  refine y4 (fun h=>?_) (fun h=>?_)
  ·rw[show decide (g.s≤3)=true from h]
   refine y4 (fun h=>?_) (fun h=>?_)
   ·rw[show decide (g.k≤4)=true from h]
    refine y5 ?_
    exact z9 [] ⟨rfl,rfl⟩ rfl
   ·rw[show decide (g.k≤4)=false from h]
    refine y5 ?_
    exact z9 [] ⟨rfl,rfl⟩ rfl
  ·rw[show decide (g.s≤3)=false from h]
   refine y5 ?_
   exact z9 [] ⟨rfl,rfl⟩ rfl
 ·rw[show decide (g.w≤16)=false from h]
  refine y5 ?_
  exact z9 [] ⟨rfl,rfl⟩ rfl
theorem v6q {g:GeoV}(h:z7f g=true):g.w≤16∧g.s≤3∧g.k≤4∧g.m≤3:=by
 unfold z7f at h
 simp only[Bool.and_eq_true,decide_eq_true_eq]at h
 omega
abbrev z1v:Flt:=⟨2,24,0,0,0,0,0,0,0⟩
def g12:GeoV:=⟨8,1,2,1⟩
def b12:z7:=(List.replicate 300 (0:UInt8)).set 299 9
theorem w1g (area:Int)(a0:0≤area)(a1:area≤1):SnapG 7 g12 area 3 4 2 1 1:=⟨by decide +kernel,rfl,rfl,rfl,a0,a1,by decide +kernel⟩
theorem z3b:b12.length=300:=by unfold b12;rw[List.length_set,List.length_replicate]
theorem y8i:∃ D0 E F G H:Dev,D0=q7y 7 g12∧D0.snapWrite 7 g12 1 3 4 b12=(0,E)∧E.fault z1v=(0,F)∧F.snapRead 7 g12 1 4 300=((b12,0),G)∧G.snapRead 7 g12 0 4 300=(([],22),H)∧D0.Ok 1000∧E.Ok 2000∧F.Ok 3000∧G.Ok 4000:=by
 have hg:=w1g 1 (by decide) (by decide)
 have hv:Y1 7=true:=by decide +kernel
 obtain⟨c0,f0⟩:=u1c 7 hv g12 hg.may
 have hsec:g12.secs=26:=by decide +kernel
 obtain⟨E,e1,e2,e3,e4⟩:=w1d hg (b:=b12) (by rw[z3b];decide) c0
 have hbase:g12.base 1=23:=by decide +kernel
 have hbase0:g12.base 0=20:=by decide +kernel
 obtain⟨F,q1,q2,q3⟩:=v6m (f:=z1v) e2 (by decide) (by rw[hsec];decide) (by decide) (by decide) (by decide) (by decide)
 have hF:q7c z1v (g12.base 1) [false,true,false] E (1*(2+1))=F:=by
  rw[hbase]
  show (E.fault (flA z1v ((23+1:Nat):Int))).2=F
  have:flA z1v ((23+1:Nat):Int)=z1v:=rfl
  rw[this,q1]
 obtain⟨G,r1,r2,r3⟩:=v0y hg (b:=b12) (by rw[z3b];decide) e2 e3 (f:=z1v) (by decide) (by decide) (by decide) (by decide) (fun h=>absurd h (by decide)) [false,true,false]
 rw[hF]at r2 r3
 have hno:(List.range 1).any (fun s=>decide (1<q8r [false,true,false] s (2+1) (2+1)))=false:=by decide +kernel
 rw[hno,z3b]at r3
 have hg0:=w1g 0 (by decide) (by decide)
 obtain⟨H,s1,s2,s3⟩:=v0z hg0 r1 hv (fun a h1 h2=>by
  rw[hbase0]at h1 h2
  have hc:G.cells[a]?=E.cells[a]?:=by
   rw[r2,q3,List.getElem?_modify]
   cases E.cells[a]? with
   |none=>rfl
   |some c=>show some (if (24:Int).toNat=a then _ else _)=_;rw[if_neg (by show ¬ 24=a;omega)]
  rw[hc,e4 a (.inl (by rw[hbase];omega))]
  exact f0 a (by rw[hsec];omega)) (long:=300) (by decide) (by decide +kernel)
 exact⟨_,E,F,G,H,rfl,e1,q1,r3,s3,c0.ok.mono (by rw[hsec];decide),e2.ok.mono (by rw[hsec];decide),q2.ok.mono (by rw[hsec];decide),r1.ok.mono (by rw[hsec];decide)⟩
set_option maxHeartbeats 4000000 in
set_option maxRecDepth 20000 in
theorem w1h:AF Tryz.prog y6n [] [] (v9 (bl true) []):=by
 obtain⟨D0,E,F,G,H,d0,d1,d2,d3,d4,o0,o1,o2,o3⟩:=y8i
 have wB:=w1a 7 g12 (by decide +kernel)
 rw[← d0]at wB
 have wW:=w4s D0 7 g12 1 3 4 b12 (by decide) (by decide) (by rw[z3b];decide) 1000 o0 (by decide)
 rw[d1]at wW
 have wf:=w3s E z1v 2000 o1 (by decide)
 rw[d2]at wf
 have wR:=x0t F 7 g12 1 4 300 (by decide) (by decide) 3000 o2 (by decide)
 rw[d3]at wR
 have wR0:=x0t G 7 g12 0 4 300 (by decide) (by decide) 4000 o3 (by decide)
 rw[d4]at wR0
 have wS:=y5a b12 b12 (by rw[z3b];decide)
 rw[beq_self_eq_true]at wS
 have hX:(List.replicate 300 [u8 0]).set 299 [u8 9]=bx b12:=by unfold b12;rw[u0u];unfold bx;rw[List.map_replicate]
 have hXl:(bx b12).length=300:=by rw[w9,z3b]
 have hz:(List.replicate 300 [u8 0])[0+299]?=some [u8 0]:=by rw[List.getElem?_replicate,if_pos (by decide)]
 have hZl:(List.replicate 300 [u8 0]).length=300:=List.length_replicate
 clear d0 d1 d2 d3 d4 o0 o1 o2 o3
 generalize b12=B at *
 obtain⟨Z,hZ⟩:∃ Z:List (List PV),Z=List.replicate 300 [u8 0]:=⟨_,rfl⟩
 rw[← hZ]at hX hz hZl
 refine v8 hT y6p rfl rfl y6q rfl ?_
 refine q8 (q7 hT ?_)
 refine z8 ⟨⟨51,[(1,.p (.box g12.pv))]⟩,[]⟩ True (q7 hT ?_) (fun _=>?_)
 ·exact⟨Wk.trans (Q3 0 g12.pv rfl rfl) (q9 [] [1] rfl),trivial⟩
 refine z8 ⟨⟨51,[(1,.p (.box g12.pv)),(2,.ref 0 0)]⟩,Y4 D0⟩ True (q7 hT ?_) (fun _=>?_)
 ·refine y9 wB ?_
  exact⟨q9 [0,1,2] [1,2] rfl,trivial⟩
 refine y6 (fun st=>∃ Y,Y=Z∧st=⟨⟨51,[(1,.p (.box g12.pv)),(2,.ref 0 0),(3,.msl 3 1 0 300)]⟩,Y4 D0++[.row z1 1 Y]⟩) (q7 hT ?_) ?_
 ·refine⟨⟨rfl,by decide,by decide,by decide⟩,?_⟩
  exact⟨_,q9 [0,1,2,3] [1,2,3] rfl,_,(by rw[hZ];rfl),rfl⟩
 rintro _ ⟨_,rfl,rfl⟩
 refine y6 (fun st=>∃ Y,Y=bx B∧st=⟨⟨51,[(1,.p (.box g12.pv)),(2,.ref 0 0),(3,.msl 3 1 0 300)]⟩,Y4 D0++[.row z1 1 Y]⟩) (q7 hT ?_) ?_
 ·refine⟨⟨by decide,by decide⟩,?_⟩
  refine v7 hz ?_
  exact⟨_,q9 [0,1,2,3] [1,2,3] rfl,_,hX,rfl⟩
 rintro _ ⟨_,rfl,rfl⟩
 refine Q1 (V3 3 3 300 rfl hXl.symm rfl rfl) ?_
 refine z8 ⟨⟨51,[(1,.p (.box g12.pv)),(2,.ref 0 0),(3,bA B),(4,i64 0)]⟩,Y4 E⟩ True (q7 hT ?_) (fun _=>?_)
 ·refine y9 (u6 [0,1,2] wW rfl rfl rfl) ?_
  exact⟨q9 [0,4,5] [1,2,3,4] rfl,trivial⟩
 refine z8 ⟨⟨51,[(1,.p (.box g12.pv)),(2,.ref 0 0),(3,bA B),(4,i64 0)]⟩,Y4 F⟩ True (q7 hT ?_) (fun _=>?_)
 ·refine y9 (u6 [0,1,2] wf rfl rfl rfl) ?_
  exact⟨q9 [0,1,2] [1,2,3,4] rfl,trivial⟩
 refine z8 ⟨⟨51,[(1,.p (.box g12.pv)),(2,.ref 0 0),(3,bA B),(4,i64 0),(5,bA B),(6,i64 0)]⟩,Y4 G⟩ True (q7 hT ?_) (fun _=>?_)
 ·refine y9 (u6 [0,1,2] wR rfl rfl rfl) ?_
  exact⟨q9 [0,1,2] [1,2,3,4,5,6] rfl,trivial⟩
 refine q8 (q7 hT ?_)
 refine y9 (w7 wS _ rfl rfl) ?_
 refine z8 ⟨⟨51,[(4,i64 0),(6,i64 0),(7,bl true),(9,i64 22)]⟩,[]⟩ True (q7 hT ?_) (fun _=>?_)
 ·refine y9 (u6 [0,1,2] wR0 rfl rfl rfl) ?_
  exact⟨q9 [] [4,6,7,9] rfl,trivial⟩
 refine q8 (q7 hT ?_)
 refine y5 ?_
 exact z9 [] ⟨rfl,rfl⟩ rfl
end Go.Proofs.YtinfbclgkghgaaaGreat.AL
namespace Go.Proofs.YtinfbclgkghgaaaGreat.AL
open Go Go.Proofs Go.RowKit
abbrev m4 (a b c d:UInt8):List Value:=[.int .u8 a.toNat,.int .u8 b.toNat,.int .u8 c.toNat,.int .u8 d.toNat]
set_option maxRecDepth 100000
end Go.Proofs.YtinfbclgkghgaaaGreat.AL
namespace Go.Proofs.YtinfbclgkghgaaaGreat.AL
open Go Go.Proofs Go.Proofs.YtinfbclgkghgaaaGreat.AL.Crc
set_option maxHeartbeats 1000000 in
set_option maxRecDepth 20000 in
theorem z1w (g:GeoV)(area stripe:Int):AF Tryz.prog y6u [g.av,i64 area,i64 stripe] [] (v9 (.tup [i64 (W5 g area stripe).1,i64 (W5 g area stripe).2]) []):=by
 refine AF.mono (R:=fun r H'=>∃ z,z=W5 g area stripe∧r=.tup [i64 z.1,i64 z.2]∧H'=[]) ?_ (by rintro r H' ⟨z,rfl,rfl,rfl⟩;exact⟨rfl,rfl⟩)
 have wm:=x0a g
 refine v8 hT y6v rfl rfl y6w rfl ?_
 refine q8 (q7 hT ?_)
 refine Q1 (Q3 0 g.pv rfl rfl) ?_
 refine q8 (q7 hT ?_)
 refine y9 (w7 wm _ rfl rfl) ?_
 refine z8 ⟨⟨48,[(1,i64 area),(2,i64 stripe),(3,.p (.box g.pv))]⟩,[]⟩ (W6 g area stripe) ?_ (fun hok=>?_)
 ·refine y6 (fun st=>∃ b,(b=true→¬ W6 g area stripe)∧(b=false→W6 g area stripe)∧st=⟨⟨48,[(1,i64 area),(2,i64 stripe),(3,.p (.box g.pv)),(30,bl b)]⟩,[]⟩) (q7 hT ?_) ?_
  ·unfold W6
   refine y4 (fun h=>?_) (fun h=>?_)
   ·have h:(!g.may)=true:=h
    rw[Bool.not_eq_true']at h
    exact⟨_,q9 [] [1,2,3,30] rfl,true,fun _ e=>(by rw[h]at e;exact absurd e.1 (by decide)),fun e=>(by cases e),rfl⟩
   have h0:g.may=true:=by
    have h:(!g.may)=false:=h
    rwa [Bool.not_eq_false']at h
   refine y4 (fun h=>?_) (fun h=>?_)
   ·have h1:=of_decide_eq_true (show decide (area<0)=true from h)
    exact⟨_,q9 [] [1,2,3,30] rfl,true,fun _ e=>by omega,fun e=>(by cases e),rfl⟩
   have h1:=of_decide_eq_false (show decide (area<0)=false from h)
   refine y4 (fun h=>?_) (fun h=>?_)
   ·have h2:=of_decide_eq_true (show decide (area > 1)=true from h)
    exact⟨_,q9 [] [1,2,3,30] rfl,true,fun _ e=>by omega,fun e=>(by cases e),rfl⟩
   have h2:=of_decide_eq_false (show decide (area > 1)=false from h)
   refine y4 (fun h=>?_) (fun h=>?_)
   ·have h3:=of_decide_eq_true (show decide (stripe<0)=true from h)
    exact⟨_,q9 [] [1,2,3,30] rfl,true,fun _ e=>by omega,fun e=>(by cases e),rfl⟩
   have h3:=of_decide_eq_false (show decide (stripe<0)=false from h)
   refine⟨_,q9 [] [1,2,3,30] rfl,decide (stripe≥g.s),fun e=>?_,fun e=>?_,rfl⟩
   ·have:=of_decide_eq_true e
    omega
   ·have:=of_decide_eq_false e
    exact⟨h0,by omega,by omega,by omega,by omega⟩
  ·rintro _ ⟨b,hb1,hb2,rfl⟩
   refine z2 (y4 (fun h=>?_) (fun h=>?_))
   ·refine q8 (q7 hT ?_)
    refine y5 ?_
    exact z9 [] ⟨(0,1),(q5h (hb1 h)).symm,rfl,rfl⟩ rfl
   ·exact z5 ⟨q9 [] [1,2,3] rfl,hb2 h⟩
 have hz:=q1m hok
 have hAr:=w0v hok.1 hok.2.1 hok.2.2.1 hok.2.2.2.1 hok.2.2.2.2
 obtain⟨hm,a0,a1,s0,s1⟩:=hok
 obtain⟨h1,h2,h3,h4,h5,h6,h7,h8⟩:=U2 (J5 hm)
 have e1:0≤area*g.s∧area*g.s≤g.s:=by
  rcases (show area=0∨area=1 by omega) with rfl|rfl <;> omega
 have hdef:g.at_ area stripe=4+2*g.w+(area*g.s+stripe)*(g.k+g.m):=rfl
 have hmu:=Int.mul_le_mul (show area*g.s+stripe≤64 by omega) (show g.k+g.m≤24 by omega) (by omega) (by omega)
 have hm0:0≤(area*g.s+stripe)*(g.k+g.m):=Int.mul_nonneg (by omega) (by omega)
 have hw:IntKind.i64.wrap (IntKind.i64.wrap (4+IntKind.i64.wrap (2*g.w))+IntKind.i64.wrap (IntKind.i64.wrap (IntKind.i64.wrap (area*g.s)+stripe)*IntKind.i64.wrap (g.k+g.m)))=g.at_ area stripe:=by
  rw[y7 (2*g.w) (by omega) (by omega),y7 (4+2*g.w) (by omega) (by omega),y7 (area*g.s) (by omega) (by omega),y7 (area*g.s+stripe) (by omega) (by omega),y7 (g.k+g.m) (by omega) (by omega),y7 ((area*g.s+stripe)*(g.k+g.m)) (by omega) (by omega),y7 _ (by omega) (by omega)]
  exact hdef.symm
 rw[← hw]at hz
 clear hdef hmu hm0 hAr e1
 refine q8 (q7 hT ?_)
 refine y5 ?_
 exact z9 [] ⟨_,hz.symm,rfl,rfl⟩ rfl
end Go.Proofs.YtinfbclgkghgaaaGreat.AL
namespace Go.Proofs.YtinfbclgkghgaaaGreat.AL
open Go Go.Proofs
theorem z4n (n:Int):AF Tryz.prog x2w [i64 n] [] (v9 (bl (Y1 n)) []):=by
 refine v8 hT x2x rfl rfl x2y rfl ?_
 unfold Y1
 refine q8 (q7 hT ?_)
 refine q8 (q7 hT ?_)
 refine y4 (fun h=>?_) (fun h=>?_)
 ·rw[show decide (n≥0)=true from h]
  refine y5 ?_
  exact z9 [] ⟨rfl,rfl⟩ rfl
 ·rw[show decide (n≥0)=false from h]
  refine y5 ?_
  exact z9 [] ⟨rfl,rfl⟩ rfl
theorem v6r (a b c:Int):U5 [a,b,c]=(Y1 a&&(Y1 b&&Y1 c)):=by
 unfold U5 Y1
 simp only[List.all_cons,List.all_nil,Bool.and_true]
theorem u1d {R:Nat}{b:z7}{j i:Nat}(hi:i<228)(hR:228*(j+1)≤R)(hb:b.length≤R):(z9k (q5w R b) j)[i]?=some (if j*228+i<b.length then b.getD (j*228+i) 0 else 0):=by
 unfold z9k
 rw[List.getElem?_take,if_pos hi,List.getElem?_drop,show 228*j+i=j*228+i by omega]
 unfold q5w
 by_cases h:j*228+i<b.length
 ·rw[if_pos h,List.getElem?_append_left h];exact Q6 h
 ·rw[if_neg h,List.getElem?_append_right (by omega),List.getElem?_replicate,if_pos (by omega)]
theorem v1a {a t:z7}(_h:a.length=t.length){k:Nat}(hk:k<t.length)(hv:a[k]?=t[k]?):q3m a t (k+1)=q3m a t k:=by
 unfold q3m
 rw[List.take_add_one,hv,List.append_assoc,List.drop_eq_getElem_cons hk,List.getElem?_eq_getElem hk]
 rfl
set_option maxHeartbeats 4000000 in
set_option maxRecDepth 20000 in
theorem w5f (vol:Int)(g:GeoV)(area epoch no:Int)(b:z7)(hk4:g.k≤4)(hm3:g.m≤3)(_hbb:b.length≤1000000) :
 AF Tryz.prog x2m [i64 vol,g.av,i64 area,i64 epoch,i64 no,bA b] [] (v9 (.tup [.p (.sl 2 (px (putsB vol g area epoch no b).1)),i64 (putsB vol g area epoch no b).2]) []):=by
 refine AF.mono (R:=fun r H'=>∃ z,z=putsB vol g area epoch no b∧r=.tup [.p (.sl 2 (px z.1)),i64 z.2]∧H'=[]) ?_ (by rintro r H' ⟨z,rfl,rfl,rfl⟩;exact⟨rfl,rfl⟩)
 have hbl:=w9 b
 have wF:=z1w g area 0
 have wv:=z4n vol
 have we:=z4n epoch
 have wn:=z4n no
 have eZ:putsB vol g area epoch no b=match (W5 g area 0).2 != 0||!U5 [vol,epoch,no]with
  |true=>([],1)
  |false=>match decide ((b.length:Int) > g.room) with
   |true=>([],2)
   |false=>(q0r vol g area epoch no (q5w g.room.toNat b) g.k.toNat g.m.toNat g.s.toNat,0):=rfl
 generalize putsB vol g area epoch no b=Z at eZ
 have hfe:(W5 g area 0).2=0→W6 g area 0:=fun h=>by
  by_cases hf:W6 g area 0
  ·exact hf
  ·rw[q5h hf]at h;exact absurd h (by decide)
 generalize hF:W5 g area 0=F at wF eZ hfe
 refine v8 hT x2n rfl rfl x2p rfl ?_
 refine q8 (q7 hT ?_)
 refine Q1 (Q3 0 g.pv rfl rfl) ?_
 refine z8 ⟨⟨151,[(0,i64 vol),(2,i64 area),(3,i64 epoch),(4,i64 no),(5,bA b),(7,.p (.box g.pv)),(15,i64 F.2)]⟩,[]⟩ True (q7 hT ?_) (fun _=>?_)
 ·refine y9 (w7 wF _ rfl rfl) ?_
  exact⟨q9 [] [0,2,3,4,5,7,15] rfl,trivial⟩
 refine z8 ⟨⟨151,[(0,i64 vol),(2,i64 area),(3,i64 epoch),(4,i64 no),(5,bA b),(7,.p (.box g.pv))]⟩,[]⟩ (W6 g area 0∧U5 [vol,epoch,no]=true) ?_ ?_
 ·refine y6 (fun st=>∃ v,v=(F.2 != 0||!U5 [vol,epoch,no])∧st=⟨⟨151,[(0,i64 vol),(2,i64 area),(3,i64 epoch),(4,i64 no),(5,bA b),(7,.p (.box g.pv)),(53,bl v)]⟩,[]⟩) (q7 hT ?_) ?_
  ·rw[v6r]
   refine y4 (fun h=>?_) (fun h=>?_)
   ·rw[show (F.2 != 0)=true from h]
    exact⟨_,q9 [] [0,2,3,4,5,7,53] rfl,true,rfl,rfl⟩
   rw[show (F.2 != 0)=false from h]
   refine y9 (w7 wv _ rfl rfl) ?_
   refine y4 (fun h=>?_) (fun h=>?_)
   ·have h:(!Y1 vol)=true:=h
    rw[show Y1 vol=false by simpa using h]
    exact⟨_,q9 [] [0,2,3,4,5,7,53] rfl,true,rfl,rfl⟩
   have h:(!Y1 vol)=false:=h
   rw[show Y1 vol=true by simpa using h]
   refine y9 (w7 we _ rfl rfl) ?_
   refine y4 (fun h=>?_) (fun h=>?_)
   ·have h:(!Y1 epoch)=true:=h
    rw[show Y1 epoch=false by simpa using h]
    exact⟨_,q9 [] [0,2,3,4,5,7,53] rfl,true,rfl,rfl⟩
   have h:(!Y1 epoch)=false:=h
   rw[show Y1 epoch=true by simpa using h]
   refine y9 (w7 wn _ rfl rfl) ?_
   exact⟨_,q9 [] [0,2,3,4,5,7,53] rfl,!Y1 no,rfl,rfl⟩
  rintro _ ⟨v,hv,rfl⟩
  rw[← hv]at eZ
  refine z2 (y4 (fun h=>?_) (fun h=>?_))
  ·have h:v=true:=h
   rw[h]at eZ
   refine q8 (q7 hT ?_)
   refine Q1 (q2t 12 2 rfl) ?_
   refine y5 ?_
   exact z9 [] ⟨([],1),eZ.symm,rfl,rfl⟩ rfl
  ·have h:v=false:=h
   rw[h]at hv
   have hv:=hv.symm
   rw[Bool.or_eq_false_iff,Bool.not_eq_false']at hv
   exact z5 ⟨q9 [] [0,2,3,4,5,7] rfl,hfe (by simpa using hv.1),hv.2⟩
 rintro⟨hok,hw⟩
 have hF0:F.2=0:=by rw[← hF,q1m hok]
 rw[hF0,hw]at eZ
 obtain⟨hg,a0,a1,_,_⟩:=hok
 obtain⟨h1,h2,h3,h4,h5,h6,h7,h8⟩:=U2 (J5 hg)
 obtain⟨S,hS⟩:∃ n:Nat,g.s=n:=⟨g.s.toNat,by omega⟩
 obtain⟨k,hk⟩:∃ n:Nat,g.k=n:=⟨g.k.toNat,by omega⟩
 obtain⟨m,hm⟩:∃ n:Nat,g.m=n:=⟨g.m.toNat,by omega⟩
 obtain⟨R,hR⟩:∃ n:Nat,n=228*(S*k):=⟨_,rfl⟩
 have hSk:S*k≤32*4:=Nat.mul_le_mul (by omega) (by omega)
 have hroomR:g.room=(R:Int):=by unfold GeoV.room;rw[hg,hS,hk,hR];show (S:Int)*k*228=_;rw[Int.mul_comm];simp
 have hroomW:IntKind.i64.wrap (IntKind.i64.wrap (g.s*g.k)*228)=(R:Int):=by
  rw[show g.s*g.k=((S*k:Nat):Int) by rw[hS,hk];simp,y7 ((S*k:Nat):Int) (by omega) (by omega),y7 _ (by omega) (by omega)];omega
 rw[hroomR,hS,hk,hm,Int.toNat_natCast,Int.toNat_natCast,Int.toNat_natCast,Int.toNat_natCast]at eZ
 have eZ:Z=match decide ((b.length:Int) > (R:Int)) with
  |true=>([],2)
  |false=>(q0r vol g area epoch no (q5w R b) k m S,0):=eZ
 refine z8 ⟨⟨151,[(0,i64 vol),(2,i64 area),(3,i64 epoch),(4,i64 no),(5,bA b),(7,.p (.box g.pv))]⟩,[]⟩ (b.length≤R) (q8 (q7 hT ?_)) (fun hbR=>?_)
 ·refine z2 (y4 (fun h=>?_) (fun h=>?_))
  ·have h:=of_decide_eq_true (show decide ((((bx b).length:Nat):Int) > IntKind.i64.wrap (IntKind.i64.wrap (g.s*g.k)*228))=true from h)
   rw[hroomW,hbl]at h
   rw[decide_eq_true h]at eZ
   refine q8 (q7 hT ?_)
   refine Q1 (q2t 12 2 rfl) ?_
   refine y5 ?_
   exact z9 [] ⟨([],2),eZ.symm,rfl,rfl⟩ rfl
  ·have h:=of_decide_eq_false (show decide ((((bx b).length:Nat):Int) > IntKind.i64.wrap (IntKind.i64.wrap (g.s*g.k)*228))=false from h)
   rw[hroomW,hbl]at h
   exact z5 ⟨q9 [] [0,2,3,4,5,7] rfl,by omega⟩
 rw[decide_eq_false (by omega)]at eZ
 have eZ:Z=(q0r vol g area epoch no (q5w R b) k m S,0):=eZ
 clear wF wv we wn hfe hF hF0 hw hroomW hroomR
 have hPl:=z1q hbR
 have hcut:=fun j i hi hj=>u1d (R:=R) (b:=b) (j:=j) (i:=i) hi hj hbR
 obtain⟨P,hP⟩:∃ P,P=q5w R b:=⟨_,rfl⟩
 rw[← hP]at eZ hPl
 simp only[← hP]at hcut
 clear hP
 have hOl:=fun s=>q2e (vol:=vol) (g:=g) (area:=area) (epoch:=epoch) (no:=no) (P:=P) (k:=k) (m:=m) s
 have hOs:∀ s,q0r vol g area epoch no P k m (s+1)=q0r vol g area epoch no P k m s++q3b vol g area epoch no (Y8 P k m s) s:=fun s=>rfl
 have hO0:q0r vol g area epoch no P k m 0=[]:=rfl
 generalize q0r vol g area epoch no P k m=O at eZ hOl hOs hO0
 refine y6 (fun st=>∃ o,o=O 0∧st=⟨⟨151,[(0,i64 vol),(2,i64 area),(3,i64 epoch),(4,i64 no),(5,bA b),(7,.p (.box g.pv)),(16,.msl 0 2 0 (px o).length)]⟩,[.row Y6 2 (px o)]⟩) (q7 hT ?_) ?_
 ·exact⟨_,Wk.trans (X5 Y6 2) (Wk.trans (q2h 16 0 2 0 rfl) (q9 [0] [0,2,3,4,5,7,16] rfl)),[],hO0.symm,rfl⟩
 rintro _ ⟨o0,ho0,rfl⟩
 refine y6 (fun st=>∃ o,o=O S∧st=⟨⟨151,[(16,.msl 0 2 0 (px o).length)]⟩,[.row Y6 2 (px o)]⟩) (q8 (q7 hT ?_)) ?_
 ·refine z3 ?_
  refine y8 (fun n st=>∃ (s:Nat) (js:Int) (o:List Put9),n+s=S∧js=s∧o=O s∧st=⟨⟨151,[(0,i64 vol),(2,i64 area),(3,i64 epoch),(4,i64 no),(5,bA b),(7,.p (.box g.pv)),(16,.msl 0 2 0 (px o).length),(17,i64 js)]⟩,[.row Y6 2 (px o)]⟩) S ⟨⟨151,_⟩,_⟩ (q9 [0] [0,2,3,4,5,7,16,17] rfl) ⟨0,0,o0,by omega,rfl,ho0,rfl⟩ ?_
  rintro n st ⟨s,js,o,hns,hjs,ho,rfl⟩
  refine q8 (q8 (q7 hT ?_))
  refine z2 (y4 (fun h=>?_) (fun h=>?_))
  ·have h:=of_decide_eq_true (show decide (js<g.s)=true from h)
   have hsS:s<S:=by omega
   refine z5 ?_
   have hR1:228*((s+1)*k)≤P.length:=by
    rw[hPl,hR]
    exact Nat.mul_le_mul_left 228 (Nat.mul_le_mul_right k hsS)
   have hDl:=q1u P k s
   have hDg:=fun j hj=>z1r (P:=P) (k:=k) (s:=s) (j:=j) hj
   have wE:=y8g (V2 P k s) m 228 (by omega) (by omega) (by omega) (by decide) (by decide) (q5i hR1)
   have hsl:=q5j P k m s
   have hsh:Y8 P k m s=V2 P k s++q4b (V2 P k s) m 228:=rfl
   have hEl:=q8n (V2 P k s) m 228
   have hO1:=hOs s
   have hOls:=hOl s
   have wF:=z1w g area (s:Int)
   obtain⟨A,hA⟩:∃ A,A=g.at_ area s:=⟨_,rfl⟩
   rw[q1m ⟨hg,a0,a1,by omega,by omega⟩,← hA]at wF
   have hAr:=w0v hg a0 a1 (show 0≤(s:Int) by omega) (by omega)
   rw[← hA]at hAr
   have hSP:∀ i,i<k+m→(q3b vol g area epoch no (Y8 P k m s) s)[i]?=some ⟨A+i,(Blk.mk 4 vol (A+i) epoch no ((Y8 P k m s).getD i [])).sld.1⟩:=fun i hi=>by
    unfold q3b
    rw[List.getElem?_map,List.getElem?_range (by omega),hA];rfl
   have hSPl:(q3b vol g area epoch no (Y8 P k m s) s).length=k+m:=by rw[z4k,hsl]
   generalize q3b vol g area epoch no (Y8 P k m s) s=SP at hO1 hSP hSPl
   generalize q4b (V2 P k s) m 228=E at wE hsh hEl
   generalize V2 P k s=D at wE hsh hDl hDg
   generalize Y8 P k m s=ALL at hsl hsh hSP
   have hsk:s*(k+m)≤32*7:=Nat.mul_le_mul (by omega) (by omega)
   have hskk:s*k+k≤S*k:=by rw[← Nat.succ_mul];exact Nat.mul_le_mul_right k hsS
   rw[← ho]at hO1 hOls
   generalize hO1g:O (s+1)=o1 at hO1
   have hDc:=Q2 D
   have hEc:=Q2 E
   have hoc:=y6f o
   refine y6 (fun st=>∃ o',o'=o1∧st=⟨⟨151,[(0,i64 vol),(2,i64 area),(3,i64 epoch),(4,i64 no),(5,bA b),(7,.p (.box g.pv)),(16,.msl 0 2 0 (px o').length),(17,i64 js)]⟩,[.row Y6 2 (px o')]⟩) (z3 ?_) ?_
   ·refine z8 ⟨⟨151,[(0,i64 vol),(2,i64 area),(3,i64 epoch),(4,i64 no),(5,bA b),(7,.p (.box g.pv)),(16,.msl 0 2 0 (px o).length),(17,i64 js),(18,.msl 1 1 0 0)]⟩,[.row Y6 2 (px o),.row z0 1 (z4 [])]⟩ True (q7 hT ?_) (fun _=>?_)
    ·exact⟨Wk.trans (X5 z0 1) (Wk.trans (q2h 18 1 1 0 rfl) (q9 [0,1] [0,2,3,4,5,7,16,17,18] rfl)),trivial⟩
    refine y6 (fun st=>∃ X,X=D∧st=⟨⟨151,[(0,i64 vol),(2,i64 area),(3,i64 epoch),(4,i64 no),(5,bA b),(7,.p (.box g.pv)),(16,.msl 0 2 0 (px o).length),(17,i64 js),(18,.msl 1 1 0 (z4 X).length)]⟩,[.row Y6 2 (px o),.row z0 1 (z4 X)]⟩) (q8 (q7 hT ?_)) ?_
    ·refine z3 ?_
     refine y8 (fun n st=>∃ (j:Nat) (jj:Int) (X:List z7),n+j=k∧jj=j∧X=D.take j∧st=⟨⟨151,[(0,i64 vol),(2,i64 area),(3,i64 epoch),(4,i64 no),(5,bA b),(7,.p (.box g.pv)),(16,.msl 0 2 0 (px o).length),(17,i64 js),(18,.msl 1 1 0 (z4 X).length),(19,i64 jj)]⟩,[.row Y6 2 (px o),.row z0 1 (z4 X)]⟩) k ⟨⟨151,_⟩,_⟩ (q9 [0,1] [0,2,3,4,5,7,16,17,18,19] rfl) ⟨0,0,[],by omega,rfl,rfl,rfl⟩ ?_
     rintro n st ⟨j,jj,X,hnj,hjj,hX,rfl⟩
     refine q8 (q8 (q7 hT ?_))
     refine z2 (y4 (fun h=>?_) (fun h=>?_))
     ·have h:=of_decide_eq_true (show decide (jj<g.k)=true from h)
      have hj:j<k:=by omega
      refine z5 ?_
      have hXl:(z4 X).length=j:=by rw[Q2,hX,List.length_take];omega
      have hcl:(z9k P (s*k+j)).length=228:=w0s (by rw[hPl,hR];exact Nat.mul_le_mul_left 228 (by omega))
      have hci:=fun i hi=>hcut (s*k+j) i hi (by rw[hR];exact Nat.mul_le_mul_left 228 (by omega))
      have hnew:D.take (j+1)=X++[z9k P (s*k+j)]:=by rw[List.take_add_one,hDg j hj,hX];rfl
      generalize z9k P (s*k+j)=T at hcl hci hnew
      have hz:(List.replicate 228 (0:UInt8)).length=228:=List.length_replicate
      have hTz:T.length=(List.replicate 228 (0:UInt8)).length:=by rw[hcl,hz]
      have hzx:bx (List.replicate 228 (0:UInt8))=List.replicate 228 [u8 0]:=by unfold bx;rw[List.map_replicate]
      have hzg:∀ i,i<228→(List.replicate 228 (0:UInt8))[i]?=some 0:=fun i hi=>by rw[List.getElem?_replicate,if_pos hi]
      generalize List.replicate 228 (0:UInt8)=Z0 at hz hTz hzx hzg
      refine y6 (fun st=>∃ X',X'=X++[T]∧st=⟨⟨151,[(0,i64 vol),(2,i64 area),(3,i64 epoch),(4,i64 no),(5,bA b),(7,.p (.box g.pv)),(16,.msl 0 2 0 (px o).length),(17,i64 js),(18,.msl 1 1 0 (z4 X').length),(19,i64 jj)]⟩,[.row Y6 2 (px o),.row z0 1 (z4 X')]⟩) (z3 ?_) ?_
      ·refine y6 (fun st=>∃ Y,Y=bx (q3m T Z0 0)∧st=⟨⟨151,[(0,i64 vol),(2,i64 area),(3,i64 epoch),(4,i64 no),(5,bA b),(7,.p (.box g.pv)),(16,.msl 0 2 0 (px o).length),(17,i64 js),(18,.msl 1 1 0 (z4 X).length),(19,i64 jj),(20,.msl 2 1 0 228)]⟩,[.row Y6 2 (px o),.row z0 1 (z4 X),.row z1 1 Y]⟩) (q7 hT ?_) ?_
       ·refine⟨⟨rfl,by decide,by decide,by decide⟩,?_⟩
        exact⟨_,q9 [0,1,2] [0,2,3,4,5,7,16,17,18,19,20] rfl,List.replicate 228 [u8 0],by unfold q3m;rw[List.take_zero,List.drop_zero,List.nil_append,hzx],rfl⟩
       rintro _ ⟨Y0,hY0,rfl⟩
       refine y6 (fun st=>∃ Y,Y=bx T∧st=⟨⟨151,[(0,i64 vol),(2,i64 area),(3,i64 epoch),(4,i64 no),(5,bA b),(7,.p (.box g.pv)),(16,.msl 0 2 0 (px o).length),(17,i64 js),(18,.msl 1 1 0 (z4 X).length),(19,i64 jj),(20,.msl 2 1 0 228)]⟩,[.row Y6 2 (px o),.row z0 1 (z4 X),.row z1 1 Y]⟩) (q8 (q7 hT ?_)) ?_
       ·refine z3 ?_
        refine y8 (fun n st=>∃ (i:Nat) (ji:Int) (Y:_),n+i=228∧ji=i∧Y=bx (q3m T Z0 i)∧st=⟨⟨151,[(0,i64 vol),(2,i64 area),(3,i64 epoch),(4,i64 no),(5,bA b),(7,.p (.box g.pv)),(16,.msl 0 2 0 (px o).length),(17,i64 js),(18,.msl 1 1 0 (z4 X).length),(19,i64 jj),(20,.msl 2 1 0 228),(21,i64 ji)]⟩,[.row Y6 2 (px o),.row z0 1 (z4 X),.row z1 1 Y]⟩) 228 ⟨⟨151,_⟩,_⟩ (q9 [0,1,2] [0,2,3,4,5,7,16,17,18,19,20,21] rfl) ⟨0,0,Y0,by omega,rfl,hY0,rfl⟩ ?_
        clear hY0
        rintro n st ⟨i,ji,Y,hni,hji,hY,rfl⟩
        refine q8 (q8 (q7 hT ?_))
        refine z2 (y4 (fun h=>?_) (fun h=>?_))
        ·have h:=of_decide_eq_true (show decide (ji<228)=true from h)
         have hi:i<228:=by omega
         refine z5 ?_
         have hTi:=hci i hi
         have hat:IntKind.i64.wrap (IntKind.i64.wrap (IntKind.i64.wrap (IntKind.i64.wrap (js*g.k)+jj)*228)+ji)=(((s*k+j)*228+i:Nat):Int):=by
          rw[hjs,hk,show (s:Int)*(k:Int)=((s*k:Nat):Int) by simp,y7 ((s*k:Nat):Int) (by omega) (by omega),y7 (((s*k:Nat):Int)+jj) (by omega) (by omega),y7 ((((s*k:Nat):Int)+jj)*228) (by omega) (by omega),y7 _ (by omega) (by omega),hjj,hji]
          omega
         generalize (s*k+j)*228+i=at_ at hTi hat
         have hYl:Y.length=228:=by rw[hY,w9,v5i hTz (by omega),hz]
         have hgY:Y[0+ji.toNat]?=some [u8 0]:=by
          rw[show 0+ji.toNat=i by omega,hY]
          have:=z6u hTz (k:=i) (by omega)
          have hz2:=hzg i hi
          rw[List.getElem?_eq_getElem (by omega)]at hz2
          rw[Option.some.inj hz2]at this
          exact u9 this
         refine y6 (fun st=>∃ Y,Y=bx (q3m T Z0 (i+1))∧st=⟨⟨151,[(0,i64 vol),(2,i64 area),(3,i64 epoch),(4,i64 no),(5,bA b),(7,.p (.box g.pv)),(16,.msl 0 2 0 (px o).length),(17,i64 js),(18,.msl 1 1 0 (z4 X).length),(19,i64 jj),(20,.msl 2 1 0 228),(21,i64 ji)]⟩,[.row Y6 2 (px o),.row z0 1 (z4 X),.row z1 1 Y]⟩) (z3 ?_) ?_
         ·refine y6 (fun st=>∃ t:Int,t=(at_:Int)∧st=⟨⟨151,[(0,i64 vol),(2,i64 area),(3,i64 epoch),(4,i64 no),(5,bA b),(7,.p (.box g.pv)),(16,.msl 0 2 0 (px o).length),(17,i64 js),(18,.msl 1 1 0 (z4 X).length),(19,i64 jj),(20,.msl 2 1 0 228),(21,i64 ji),(22,i64 t)]⟩,[.row Y6 2 (px o),.row z0 1 (z4 X),.row z1 1 Y]⟩) (q7 hT ?_) ?_
          ·exact⟨_,q9 [0,1,2] [0,2,3,4,5,7,16,17,18,19,20,21,22] rfl,_,hat,rfl⟩
          rintro _ ⟨t,ht,rfl⟩
          refine q8 (q7 hT ?_)
          refine z2 (y4 (fun h=>?_) (fun h=>?_))
          ·have h:=of_decide_eq_true (show decide (t<(((bx b).length:Nat):Int))=true from h)
           rw[if_pos (by omega)]at hTi
           have hbp:(bx b)[t.toNat]?=some [u8 (b.getD at_ 0)]:=by rw[ht,Int.toNat_natCast];exact u9 (Q6 (by omega))
           generalize b.getD at_ 0=v at hTi hbp
           have hset:=z6v hTz (k:=i) (by omega) hTi
           refine q7 hT ?_
           refine⟨by omega,v7 hbp ?_⟩
           refine⟨⟨by omega,by omega⟩,?_⟩
           refine v7 hgY ?_
           refine⟨_,q9 [0,1,2] [0,2,3,4,5,7,16,17,18,19,20,21] rfl,Y.set (0+ji.toNat) [u8 v],?_,rfl⟩
           rw[show 0+ji.toNat=i by omega,hY];exact hset
          ·have h:=of_decide_eq_false (show decide (t<(((bx b).length:Nat):Int))=false from h)
           rw[if_neg (by omega)]at hTi
           refine z5 ⟨_,q9 [0,1,2] [0,2,3,4,5,7,16,17,18,19,20,21] rfl,Y,?_,rfl⟩
           rw[hY,v1a hTz (by omega) (by rw[hTi,hzg i hi])]
         ·rintro _ ⟨Y',hY',rfl⟩
          refine q7 hT ?_
          exact⟨n - 1,by omega,_,q9 [0,1,2] [0,2,3,4,5,7,16,17,18,19,20,21] rfl,i+1,IntKind.i64.wrap (ji+1),Y',by omega,by rw[y7 _ (by omega) (by omega)];omega,hY',rfl⟩
        ·have h:=of_decide_eq_false (show decide (ji<228)=false from h)
         have hme:=z6t hTz
         rw[hz]at hme
         rw[show i=228 by omega,hme]at hY
         refine x9 ?_
         exact⟨_,q9 [0,1,2] [0,2,3,4,5,7,16,17,18,19,20] rfl,Y,hY,rfl⟩
       rintro _ ⟨_,rfl,rfl⟩
       have hTb:(bx T).length=228:=by rw[w9,hcl]
       refine Q1 (V3 20 2 228 rfl hTb.symm rfl rfl) ?_
       refine q7 hT ?_
       refine⟨rfl,⟨by show ((z4 X).length+1)*24≤_;omega,by show (z4 X).length+1≤_;omega⟩,?_⟩
       refine⟨_,q9 [0,4] [0,2,3,4,5,7,16,17,18,19] rfl,_,rfl,?_⟩
       rw[J4];rfl
      ·rintro _ ⟨X',hX',rfl⟩
       refine q7 hT ?_
       exact⟨n - 1,by omega,_,q9 [0,1] [0,2,3,4,5,7,16,17,18,19] rfl,j+1,IntKind.i64.wrap (jj+1),X',by omega,by rw[y7 _ (by omega) (by omega)];omega,by rw[hnew];exact hX',rfl⟩
     ·have h:=of_decide_eq_false (show decide (jj<g.k)=false from h)
      rw[List.take_of_length_le (by omega)]at hX
      refine x9 ?_
      exact⟨_,q9 [0,1] [0,2,3,4,5,7,16,17,18] rfl,X,hX,rfl⟩
    rintro _ ⟨X,rfl,rfl⟩
    rw[← hm]at wE
    refine z8 ⟨⟨151,[(0,i64 vol),(2,i64 area),(3,i64 epoch),(4,i64 no),(5,bA b),(7,.p (.box g.pv)),(16,.msl 0 2 0 (px o).length),(17,i64 js),(18,.msl 1 1 0 (z4 X).length),(23,.p (.sl 1 (z4 E)))]⟩,[.row Y6 2 (px o),.row z0 1 (z4 X)]⟩ True (q7 hT ?_) (fun _=>?_)
    ·refine y9 (u6 [1] (by rw[hDc];exact wE:AFm Tryz.prog 1 z0u [.msl 0 1 0 (z4 X).length,i64 g.m] [.row z0 1 (z4 X)] (v9 (.tup [.p (.sl 1 (z4 E)),i64 0]) [.row z0 1 (z4 X)])) rfl rfl rfl) ?_
     exact⟨q9 [0,1] [0,2,3,4,5,7,16,17,18,23] rfl,trivial⟩
    refine y6 (fun st=>∃ Y,Y=z4 ALL∧st=⟨⟨151,[(0,i64 vol),(2,i64 area),(3,i64 epoch),(4,i64 no),(5,bA b),(7,.p (.box g.pv)),(16,.msl 0 2 0 (px o).length),(17,i64 js),(25,.p (.sl 1 Y))]⟩,[.row Y6 2 (px o)]⟩) (q7 hT ?_) ?_
    ·refine⟨by omega,⟨by show ((z4 X).length+(z4 E).length)*24≤_;omega,by omega⟩,?_⟩
     exact⟨_,Wk.trans (V3 25 2 _ rfl rfl rfl rfl) (q9 [0] [0,2,3,4,5,7,16,17,25] rfl),_,by rw[hsh,J4],rfl⟩
    rintro _ ⟨_,rfl,rfl⟩
    have hALc:=Q2 ALL
    rw[hjs]
    refine z8 ⟨⟨151,[(0,i64 vol),(2,i64 area),(3,i64 epoch),(4,i64 no),(5,bA b),(7,.p (.box g.pv)),(16,.msl 0 2 0 (px o).length),(17,i64 s),(25,.p (.sl 1 (z4 ALL))),(26,i64 A)]⟩,[.row Y6 2 (px o)]⟩ True (q7 hT ?_) (fun _=>?_)
    ·refine y9 (w7 wF _ rfl rfl) ?_
     exact⟨q9 [0] [0,2,3,4,5,7,16,17,25,26] rfl,trivial⟩
    refine q8 (q7 hT ?_)
    refine z3 ?_
    refine y8 (fun n st=>∃ (j:Nat) (jj:Int) (Y:List Put9),n+j=k+m∧jj=j∧Y=o++SP.take j∧st=⟨⟨151,[(0,i64 vol),(2,i64 area),(3,i64 epoch),(4,i64 no),(5,bA b),(7,.p (.box g.pv)),(16,.msl 0 2 0 (px Y).length),(17,i64 s),(25,.p (.sl 1 (z4 ALL))),(26,i64 A),(28,i64 jj)]⟩,[.row Y6 2 (px Y)]⟩) (k+m) ⟨⟨151,_⟩,_⟩ (q9 [0] [0,2,3,4,5,7,16,17,25,26,28] rfl) ⟨0,0,o,by omega,rfl,by rw[List.take_zero,List.append_nil],rfl⟩ ?_
    clear wE wF
    rintro n st ⟨j,jj,Y,hnj,hjj,hY,rfl⟩
    refine q8 (q8 (q7 hT ?_))
    refine z2 (y4 (fun h=>?_) (fun h=>?_))
    ·have h:=of_decide_eq_true (show decide (jj<(((z4 ALL).length:Nat):Int))=true from h)
     have hjk:j<k+m:=by omega
     refine z5 ?_
     have hx:=List.getElem?_eq_getElem (show j<ALL.length by omega)
     have hSPj:=hSP j hjk
     rw[List.getD_eq_getElem?_getD,hx]at hSPj
     generalize ALL[j]=sh at hx hSPj
     have hSPj:SP[j]?=some ⟨A+j,(Blk.mk 4 vol (A+j) epoch no sh).sld.1⟩:=hSPj
     have hxp:(z4 ALL)[jj.toNat]?=some [bP sh]:=by rw[hjj,Int.toNat_natCast];exact Q4 hx
     have hwr:IntKind.i64.wrap (A+jj)=A+j:=by rw[y7 _ (by omega) (by omega),hjj]
     have wb:=y5j (Blk.mk 4 vol (IntKind.i64.wrap (A+jj)) epoch no sh)
     rw[← hwr]at hSPj
     have hYl:Y.length≤s*(k+m)+(k+m):=by rw[hY,List.length_append,List.length_take];omega
     have hYc:=y6f Y
     have hY2:o++SP.take (j+1)=Y++[⟨IntKind.i64.wrap (A+jj),(Blk.mk 4 vol (IntKind.i64.wrap (A+jj)) epoch no sh).sld.1⟩]:=by
      rw[List.take_add_one,hSPj,hY,List.append_assoc];rfl
     generalize (Blk.mk 4 vol (IntKind.i64.wrap (A+jj)) epoch no sh).sld=sd at wb hY2
     refine y6 (fun st=>∃ Y',Y'=o++SP.take (j+1)∧st=⟨⟨151,[(0,i64 vol),(2,i64 area),(3,i64 epoch),(4,i64 no),(5,bA b),(7,.p (.box g.pv)),(16,.msl 0 2 0 (px Y').length),(17,i64 s),(25,.p (.sl 1 (z4 ALL))),(26,i64 A),(28,i64 jj)]⟩,[.row Y6 2 (px Y')]⟩) (z3 ?_) ?_
     ·refine z8 ⟨⟨151,[(0,i64 vol),(2,i64 area),(3,i64 epoch),(4,i64 no),(5,bA b),(7,.p (.box g.pv)),(16,.msl 0 2 0 (px Y).length),(17,i64 s),(25,.p (.sl 1 (z4 ALL))),(26,i64 A),(28,i64 jj),(29,bA sd.1)]⟩,[.row Y6 2 (px Y)]⟩ True (q7 hT ?_) (fun _=>?_)
      ·refine⟨by omega,v7 hxp ?_⟩
       refine y9 (w7 wb _ rfl rfl) ?_
       exact⟨q9 [0] [0,2,3,4,5,7,16,17,25,26,28,29] rfl,trivial⟩
      refine q7 hT ?_
      refine⟨rfl,⟨by show ((px Y).length+1)*32≤_;omega,by show (px Y).length+1≤_;omega⟩,?_⟩
      refine⟨_,q9 [2] [0,2,3,4,5,7,16,17,25,26,28] rfl,_,hY2.symm,?_⟩
      rw[show px (Y++[⟨IntKind.i64.wrap (A+jj),sd.1⟩])=px Y++[(⟨IntKind.i64.wrap (A+jj),sd.1⟩:Put9).pv] by simp[px]];rfl
     ·rintro _ ⟨Y',rfl,rfl⟩
      refine q7 hT ?_
      exact⟨n - 1,by omega,_,q9 [0] [0,2,3,4,5,7,16,17,25,26,28] rfl,j+1,IntKind.i64.wrap (jj+1),_,by omega,by rw[y7 _ (by omega) (by omega)];omega,rfl,rfl⟩
    ·have h:=of_decide_eq_false (show decide (jj<(((z4 ALL).length:Nat):Int))=false from h)
     rw[List.take_of_length_le (by omega),← hO1]at hY
     refine x9 ?_
     exact⟨_,q9 [0] [0,2,3,4,5,7,16,17] rfl,Y,hY,rfl⟩
   ·rintro _ ⟨o',ho',rfl⟩
    refine q7 hT ?_
    exact⟨n - 1,by omega,_,q9 [0] [0,2,3,4,5,7,16,17] rfl,s+1,IntKind.i64.wrap (js+1),o',by omega,by rw[y7 _ (by omega) (by omega)];omega,by rw[hO1g];exact ho',rfl⟩
  ·have h:=of_decide_eq_false (show decide (js<g.s)=false from h)
   rw[show s=S by omega]at ho
   refine x9 ?_
   exact⟨_,q9 [0] [16] rfl,o,ho,rfl⟩
 rintro _ ⟨o,rfl,rfl⟩
 refine Q1 (w6f 16 0 2 _ rfl rfl rfl rfl) ?_
 refine q8 (q7 hT ?_)
 refine y5 ?_
 exact z9 [] ⟨(O S,0),eZ.symm,rfl,rfl⟩ rfl
end Go.Proofs.YtinfbclgkghgaaaGreat.AL
namespace Go.Proofs.YtinfbclgkghgaaaGreat.AL
open Go Go.Proofs Go.Proofs.YtinfbclgkghgaaaGreat.AL.Crc
theorem u1e (b:Blk):b.sld.1.length≤256:=by
 unfold Blk.sld
 split
 ·exact Nat.zero_le _
 ·split
  ·exact Nat.zero_le _
  ·rename_i h
   show (J9 b.all).length≤256
   rw[q6g,q9k b (by have:=of_decide_eq_false h;omega)]
   exact Nat.le_refl _
theorem w1i {vol:Int}{g:GeoV}{area epoch no:Int}{P:z7}{k m:Nat}:∀ s,∀ p∈q0r vol g area epoch no P k m s,p.s.length≤256
 |0,p,h=>absurd h (List.not_mem_nil)
 |s+1,p,h=>by
  unfold q0r at h
  rcases List.mem_append.mp h with h|h
  ·exact w1i s p h
  ·unfold q3b at h
   rw[List.mem_map]at h
   obtain⟨i,_,rfl⟩:=h
   exact u1e _
theorem v6s {vol:Int}{g:GeoV}{area epoch no:Int}{b:z7}:∀ p∈(putsB vol g area epoch no b).1,p.s.length≤256:=by
 unfold putsB
 split
 ·intro p h;cases h
 ·split
  ·intro p h;cases h
  ·exact w1i _
set_option maxHeartbeats 4000000 in
set_option maxRecDepth 20000 in
theorem v1b (vol:Int)(g:GeoV)(area epoch no:Int)(b:z7)(stripe:Int):AF Tryz.prog z7z [i64 vol,g.av,i64 area,i64 epoch,i64 no,bA b,i64 stripe] [] (v9 (bl true) []):=by
 refine AF.mono (R:=fun r H'=>∃ z,z=true∧r=bl z∧H'=[]) ?_ (by rintro r H' ⟨b,rfl,rfl,rfl⟩;exact⟨rfl,rfl⟩)
 have wsm:=w1f g
 have hbl:=w9 b
 generalize hsm:z7f g=sm at wsm
 have wF:=q4s g area stripe
 have wG:=z1w g area stripe
 generalize W5 g area stripe=F at wF wG
 refine v8 hT z8a rfl rfl z8b rfl ?_
 refine z8 ⟨⟨128,[(0,i64 vol),(2,i64 area),(3,i64 epoch),(4,i64 no),(5,bA b),(6,i64 stripe),(8,.p (.box g.pv))]⟩,[]⟩ True (q7 hT ?_) (fun _=>?_)
 ·exact⟨Wk.trans (Q3 0 g.pv rfl rfl) (q9 [] [0,2,3,4,5,6,8] rfl),trivial⟩
 refine q8 (q7 hT ?_)
 refine y9 (w7 w1h _ rfl rfl) ?_
 refine q8 (q7 hT ?_)
 refine y9 (w7 wsm _ rfl rfl) ?_
 refine z8 ⟨⟨128,[(0,i64 vol),(2,i64 area),(3,i64 epoch),(4,i64 no),(5,bA b),(6,i64 stripe),(8,.p (.box g.pv))]⟩,[]⟩ (sm=true∧b.length≤4000) (q8 (q7 hT ?_)) ?_
 ·refine y4 (fun h=>?_) (fun h=>?_)
  ·refine z2 ?_
   refine q8 (q7 hT ?_)
   refine y5 ?_
   exact z9 [] ⟨true,rfl,rfl,rfl⟩ rfl
  ·have h:(!sm)=false:=h
   rw[Bool.not_eq_false']at h
   refine z2 (y4 (fun h2=>?_) (fun h2=>?_))
   ·refine q8 (q7 hT ?_)
    refine y5 ?_
    exact z9 [] ⟨true,rfl,rfl,rfl⟩ rfl
   ·have h2:=of_decide_eq_false (show decide ((((bx b).length:Nat):Int) > 4000)=false from h2)
    exact z5 ⟨q9 [] [0,2,3,4,5,6,8] rfl,h,by omega⟩
 rintro⟨hs,hb⟩
 rw[hs]at hsm
 obtain⟨_,hs3,hk4,hm3⟩:=v6q hsm
 have wP:=x0n vol g area epoch no b hk4 hm3 (by omega)
 have wQ:=w5f vol g area epoch no b hk4 hm3 (by omega)
 have hle:=v6s (vol:=vol) (g:=g) (area:=area) (epoch:=epoch) (no:=no) (b:=b)
 have hln:=x0r (vol:=vol) (g:=g) (area:=area) (epoch:=epoch) (no:=no) (b:=b) hk4 hm3
 generalize putsB vol g area epoch no b=Z at wP wQ hle hln
 obtain⟨l,e⟩:=Z
 obtain⟨f1,f2⟩:=F
 have hpl:=y6f l
 have hln:l.length≤224:=hln
 refine z8 ⟨⟨128,[(0,i64 vol),(2,i64 area),(3,i64 epoch),(4,i64 no),(5,bA b),(6,i64 stripe),(8,.p (.box g.pv)),(17,i64 f1),(18,i64 f2)]⟩,[]⟩ True (q7 hT ?_) (fun _=>?_)
 ·refine y9 (w7 wF _ rfl rfl) ?_
  exact⟨q9 [] [0,2,3,4,5,6,8,17,18] rfl,trivial⟩
 refine z8 ⟨⟨128,[(0,i64 vol),(2,i64 area),(3,i64 epoch),(4,i64 no),(5,bA b),(8,.p (.box g.pv)),(17,i64 f1),(18,i64 f2),(19,i64 f1),(20,i64 f2)]⟩,[]⟩ True (q7 hT ?_) (fun _=>?_)
 ·refine y9 (w7 wG _ rfl rfl) ?_
  exact⟨q9 [] [0,2,3,4,5,8,17,18,19,20] rfl,trivial⟩
 refine z8 ⟨⟨128,[(0,i64 vol),(2,i64 area),(3,i64 epoch),(4,i64 no),(5,bA b),(8,.p (.box g.pv)),(17,i64 f1),(18,i64 f2),(19,i64 f1),(20,i64 f2),(21,.p (.sl 2 (px l))),(22,i64 e)]⟩,[]⟩ True (q7 hT ?_) (fun _=>?_)
 ·refine y9 (w7 wP _ rfl rfl) ?_
  exact⟨q9 [] [0,2,3,4,5,8,17,18,19,20,21,22] rfl,trivial⟩
 refine z8 ⟨⟨128,[(17,i64 f1),(18,i64 f2),(19,i64 f1),(20,i64 f2),(21,.p (.sl 2 (px l))),(22,i64 e),(23,.p (.sl 2 (px l))),(24,i64 e)]⟩,[]⟩ True (q7 hT ?_) (fun _=>?_)
 ·refine y9 (w7 wQ _ rfl rfl) ?_
  exact⟨q9 [] [17,18,19,20,21,22,23,24] rfl,trivial⟩
 have b1:(f1 != f1)=false:=bne_self_eq_false _
 have b2:(f2 != f2)=false:=bne_self_eq_false _
 have b3:(e != e)=false:=bne_self_eq_false _
 have b4:((((px l).length:Nat):Int) != (((px l).length:Nat):Int))=false:=bne_self_eq_false _
 refine z8 ⟨⟨128,[(21,.p (.sl 2 (px l))),(23,.p (.sl 2 (px l)))]⟩,[]⟩ True (q8 (q7 hT ?_)) (fun _=>?_)
 ·refine y4 (fun h=>?_) (fun h=>?_)
  ·have h:(f1 != f1)=true:=h
   rw[b1]at h;cases h
  refine y4 (fun h=>?_) (fun h=>?_)
  ·have h:(f2 != f2)=true:=h
   rw[b2]at h;cases h
  refine y4 (fun h=>?_) (fun h=>?_)
  ·have h:(e != e)=true:=h
   rw[b3]at h;cases h
  refine z2 (y4 (fun h=>?_) (fun h=>?_))
  ·have h:((((px l).length:Nat):Int) != (((px l).length:Nat):Int))=true:=h
   rw[b4]at h;cases h
  exact z5 ⟨q9 [] [21,23] rfl,trivial⟩
 refine z8 ⟨⟨128,[]⟩,[]⟩ True (q8 (q7 hT ?_)) (fun _=>?_)
 ·refine z3 ?_
  refine y8 (fun n st=>∃ (i:Nat) (ji:Int),n+i=l.length∧ji=i∧st=⟨⟨128,[(21,.p (.sl 2 (px l))),(23,.p (.sl 2 (px l))),(25,i64 ji)]⟩,[]⟩) l.length ⟨⟨128,_⟩,_⟩ (q9 [] [21,23,25] rfl) ⟨0,0,by omega,rfl,rfl⟩ ?_
  rintro n st ⟨i,ji,hni,hji,rfl⟩
  refine q8 (q8 (q7 hT ?_))
  refine z2 (y4 (fun h=>?_) (fun h=>?_))
  ·have h:=of_decide_eq_true (show decide (ji<(((px l).length:Nat):Int))=true from h)
   have hi:i<l.length:=by omega
   refine z5 ?_
   have hx:=List.getElem?_eq_getElem hi
   have hxl:=hle _ (List.getElem_mem hi)
   generalize l[i]=x at hx hxl
   have hxp:(px l)[ji.toNat]?=some x.pv:=by rw[hji,Int.toNat_natCast];exact v6c hx
   obtain⟨xa,xs⟩:=x
   have wS:=y5a xs xs (by have:xs.length≤256:=hxl;omega)
   rw[beq_self_eq_true]at wS
   have b5:(xa != xa)=false:=bne_self_eq_false _
   refine z8 ⟨⟨128,[(21,.p (.sl 2 (px l))),(23,.p (.sl 2 (px l))),(25,i64 ji)]⟩,[]⟩ True (z3 (q8 ?_)) (fun _=>?_)
   ·refine x6 [] [] hT z6 (by rfl) ?_
    refine⟨by omega,v7 hxp ?_⟩
    refine⟨by omega,v7 hxp ?_⟩
    refine⟨_,w7 wS _ rfl rfl,?_⟩
    refine q8 ?_
    refine x6 [] [] hT z6 (by rfl) ?_
    refine⟨by omega,v7 hxp ?_⟩
    refine⟨by omega,v7 hxp ?_⟩
    refine z2 (y4 (fun h=>?_) (fun h=>?_))
    ·have h:(xa != xa)=true:=h
     rw[b5]at h;cases h
    exact z5 ⟨q9 [] [21,23,25] rfl,trivial⟩
   ·refine q7 hT ?_
    exact⟨n - 1,by omega,_,q9 [] [21,23,25] rfl,i+1,IntKind.i64.wrap (ji+1),by omega,by rw[y7 _ (by omega) (by omega)];omega,rfl⟩
  ·refine x9 ?_
   exact⟨q9 [] [] rfl,trivial⟩
 refine q8 (q7 hT ?_)
 refine y5 ?_
 exact z9 [] ⟨true,rfl,rfl,rfl⟩ rfl
end Go.Proofs.YtinfbclgkghgaaaGreat.AL
namespace Go.Proofs.YtinfbclgkghgaaaGreat.AL
open Go Go.RowKit Go.ChangeShapes Go.WideShapes Go.ChangeAt Go.Deep
theorem v6t {P:Program}{f:FuncId}{args:List AV}{r:Value}{W:World}{vals:Array Value}(h:AF P f args [] (v9 (.p (.raw r)) []))(hn:vals.size=args.length)
 (ha:∀ i u,args[i]?=some u→ARep W (·<W.heap.size) (fun _=>none) u (vals.getD i undef)):Calls P f vals W fun e W'=>e=.returned r∧Below W.heap.size W W':=by
 have hs:SimH W (·<W.heap.size) (fun _=>none) []:=⟨fun b k hb=>by simp at hb,fun b b' B hb=>by obtain⟨k,hk,_⟩:=hb;simp at hk,fun B hB=>hB,fun _ _=>rfl,fun b B hb=>by simp at hb⟩
 refine(h.2 W _ _ vals hn ha hs).mono ?_
 rintro e W' ⟨v,r',H',I',ι',rfl,⟨rfl,rfl⟩,hr,hs',hx⟩
 rw[Q7 hr]
 refine⟨rfl,⟨hx.ext.os,hx.ext.tape,hx.ext.output,hx.ext.size,fun k hk=>hx.ext.frame k hk ?_⟩⟩
 rintro⟨b,hb,_⟩
 obtain⟨k',hk',_⟩:=hb
 simp at hk'
section
variable {H:Type} {enc:TypeId × Value→H} {P:Program} {W:World} {spare:Nat→Bool} {held:Bool}
theorem y8j {n:Nat}(h:n≤maxLen):n≤9223372036854775807:=by
 have:maxLen=9223372036854775807:=by decide
 omega
theorem v1c {t e:TypeId}{v:Value}{d:DataW H}{ps:List MemPlace}{r:Reach}{b0:Nat}{ι:Nat→Option Nat}(ht:P.underlying t=some (.slice e))(hval:Value.okWide P W r b0 t v)(h:DataW.Trod enc P W 0 spare held t v d ps)
 {α:Type} [Inhabited α] (pv:α→List PV) (sz:Nat) (hsz:P.cellsOf e=sz) (h0:0<sz)
 (hel:∀ (n:Nat) (cs:List Value) (x:DataW H × List MemPlace),DataW.trod enc P W 0 spare held n e cs=some x→∃ a:α,(pv a).length=sz∧∀ (i:Nat) (u:PV),(pv a)[i]?=some u→∀ v:Value,cs[i]?=some v→PRep W (·<W.heap.size) u v) :
 ∃ l:List α,ARep W (·<W.heap.size) ι (.p (.sl sz (l.map pv))) v:=by
 classical
 obtain⟨a0,len,cap,rfl⟩:=okWide_slice ht hval
 obtain⟨fuel,hf⟩:=h
 rcases open_slice ht hf with ⟨hcs,_⟩|⟨a,len',cap',m,n,D,Pl,hcs,_,hl,hm,hmm,_,hx⟩
 ·simp[Value.cells]at hcs
  obtain⟨rfl,rfl,rfl⟩:=hcs
  exact⟨[],.p (PRep.sl sz [] none 0 (fun _ _=>undef) (by simp) (by simp) (.inl rfl) (fun j e i u h=>by simp at h))⟩
 ·simp[Value.cells]at hcs
  obtain⟨rfl,rfl,rfl⟩:=hcs
  have hlm:len≤m:=by rw[hmm];split <;> omega
  have hone:∀ i,∃ x:α,i<len→(pv x).length=sz∧(∀ k,k<sz→∃ v,W.cell? ((a.add (i*sz)).add k)=some v)∧∀ (k:Nat) (u:PV) (v:Value),(pv x)[k]?=some u→W.cell? ((a.add (i*sz)).add k)=some v→PRep W (·<W.heap.size) u v:=by
   intro i
   by_cases hi:i<len
   ·obtain⟨cs',h1,h2⟩:=hx i (by omega)
    rw[hsz]at h1
    obtain⟨x,h3,h4⟩:=hel n cs' _ h2
    obtain⟨_,hlen,hc⟩:=World.cells?_some h1
    refine⟨x,fun _=>⟨h3,fun k hk=>?_,fun k u v hu hv=>?_⟩⟩
    ·exact⟨cs'[k]'(by omega),by rw[hc k hk,List.getElem?_eq_getElem]⟩
    ·have hk:k<sz:=by rw[← h3];exact(List.getElem?_eq_some_iff.1 hu).1
     exact h4 k u hu v (by rw[← hc k hk];exact hv)
   ·exact⟨default,fun h=>absurd h hi⟩
  let g:Nat→α:=fun i=>(hone i).choose
  have hg:∀ i,i<len→(pv (g i)).length=sz∧(∀ k,k<sz→∃ v,W.cell? ((a.add (i*sz)).add k)=some v)∧∀ (k:Nat) (u:PV) (v:Value),(pv (g i))[k]?=some u→W.cell? ((a.add (i*sz)).add k)=some v→PRep W (·<W.heap.size) u v:=fun i hi=>(hone i).choose_spec hi
  clear_value g
  have hlen:(((List.range len).map g).map pv).length=len:=by simp
  have hget:∀ (j:Nat) (e:List PV),(((List.range len).map g).map pv)[j]?=some e→j<len∧e=pv (g j):=by
   intro j e hj
   have hjl:j<len:=by rw[← hlen];exact(List.getElem?_eq_some_iff.1 hj).1
   simp[hjl]at hj
   exact⟨hjl,hj.symm⟩
  refine⟨(List.range len).map g,.p ?_⟩
  have:=PRep.sl (w:=W) (I:=(·<W.heap.size)) sz (((List.range len).map g).map pv) (some a) cap (fun j i=>(W.cell? ((a.add (j*sz)).add i)).getD undef) (by omega) (by have:=y8j hm;omega) ?_ ?_
  ·rw[hlen]at this;exact this
  ··rcases Nat.eq_zero_or_pos len with hz|hz
    ·subst hz;exact .inl rfl
    ·obtain⟨v,hv⟩:=(hg 0 hz).2.1 0 h0
     obtain⟨ab,ao,asp⟩:=a
     have hspot:asp=none:=by simpa [Addr.add] using World.cell?_spot hv
     subst hspot
     refine .inr ⟨ab,ao,rfl,?_,fun j e hj=>?_⟩
     ·unfold World.cell? at hv
      split at hv
      ·rename_i hb
       have:=(Array.getElem?_eq_some_iff.1 hb).1
       simpa [Addr.add] using this
      ·simp at hv
     ·obtain⟨hjl,rfl⟩:=hget j e hj
      refine⟨(hg j hjl).1,fun i hi=>?_⟩
      obtain⟨v,hv⟩:=(hg j hjl).2.1 i hi
      have e1:(Addr.add ⟨ab,ao,none⟩ (j*sz)).add i=⟨ab,ao+j*sz+i,none⟩:=by rw[add_plain,add_plain]
      rw[e1]at hv
      rw[hv]
      show some v=some ((W.cell? _).getD undef)
      rw[e1,hv];rfl
  ·intro j e i u hj hu
   obtain⟨hjl,rfl⟩:=hget j e hj
   have hi:i<sz:=by rw[← (hg j hjl).1];exact(List.getElem?_eq_some_iff.1 hu).1
   obtain⟨v,hv⟩:=(hg j hjl).2.1 i hi
   rw[hv]
   exact(hg j hjl).2.2 i u v hu hv
end
end Go.Proofs.YtinfbclgkghgaaaGreat.AL
namespace Go.Proofs.YtinfbclgkghgaaaGreat.AL
open Go Go.RowKit Go.ChangeShapes Go.WideShapes Go.ChangeAt Go.Deep Go.Proofs
theorem v8v {W:World}{I:Nat→Prop}(k:IntKind)(n:Int):PRep W I (.raw (.int k n)) (.int k n):=.raw _ rfl
theorem q6f {W:World}{I:Nat→Prop}{ι:Nat→Option Nat}(n:Int):ARep W I ι (i64 n) (.int .i64 n):=.p (.raw _ rfl)
section
variable {H:Type} {enc:TypeId × Value→H} {W:World} {spare:Nat→Bool} {held:Bool}
theorem u8e {n:Int}(h:(Lit.int .u8 n).wf=true):∃ b:UInt8,n=(b.toNat:Int):=by
 have h2:0≤n∧n<256:=by
  simp[Lit.wf]at h
  have h3:IntKind.u8.min=0:=rfl
  have h4:IntKind.u8.max=255:=rfl
  omega
 refine⟨UInt8.ofNat n.toNat,?_⟩
 rw[UInt8.toNat_ofNat']
 omega
theorem c3:Tryz.prog.cellsOf 3=1:=by kernel_rfl
theorem c5:Tryz.prog.cellsOf 5=1:=by kernel_rfl
theorem c23:Tryz.prog.cellsOf 23=4:=by kernel_rfl
set_option maxRecDepth 20000 in
theorem v1d (n:Nat)(cs:List Value)(x:DataW H × List MemPlace)(h:DataW.trod enc Tryz.prog W 0 spare held n 23 cs=some x):∃ g:GeoV,cs=[.int .i64 g.w,.int .i64 g.s,.int .i64 g.k,.int .i64 g.m]:=by
 obtain⟨xs,m,_,rfl,hl,hlen,hf⟩:=DataW.trod_struct Tryz.underlying23 h
 rw[c23]at hl
 have h0:=hf 0 _ rfl
 have h1:=hf 1 _ rfl
 have h2:=hf 2 _ rfl
 have h3:=hf 3 _ rfl
 match xs,hlen with
 |[y0,y1,y2,y3],_=>
  match cs,hl with
  |[v0,v1,v2,v3],_=>
   simp[c3]at h0 h1 h2 h3
   obtain⟨a0,e0,_⟩:=DataW.trod_int Tryz.underlying3 h0
   obtain⟨a1,e1,_⟩:=DataW.trod_int Tryz.underlying3 h1
   obtain⟨a2,e2,_⟩:=DataW.trod_int Tryz.underlying3 h2
   obtain⟨a3,e3,_⟩:=DataW.trod_int Tryz.underlying3 h3
   simp at e0 e1 e2 e3
   exact⟨⟨a0,a1,a2,a3⟩,by rw[e0,e1,e2,e3]⟩
set_option maxRecDepth 20000 in
theorem v8w {v:Value}{d:DataW H}{ps:List MemPlace}{r:Reach}{b0:Nat}{ι:Nat→Option Nat}
 (hval:Value.okWide Tryz.prog W r b0 23 v) (h:DataW.Trod enc Tryz.prog W 0 spare held 23 v d ps):∃ g:GeoV,ARep W (·<W.heap.size) ι g.av v:=by
 obtain⟨cs,rfl,hsz⟩:=okWide_struct Tryz.underlying23 hval
 obtain⟨n,hn⟩:=h
 obtain⟨g,hcs⟩:=v1d n _ _ hn
 have:cs=[Value.int .i64 g.w,.int .i64 g.s,.int .i64 g.k,.int .i64 g.m].toArray:=by
  cases cs;simpa [Value.cells] using hcs
 subst this
 refine⟨g,.agg _ _ rfl fun i u hu=>?_⟩
 match i,hu with
 |0,hu=>cases hu;exact q6f _
 |1,hu=>cases hu;exact q6f _
 |2,hu=>cases hu;exact q6f _
 |3,hu=>cases hu;exact q6f _
 |i+4,hu=>cases hu
theorem v8x (n:Nat)(cs:List Value)(x:DataW H × List MemPlace)(hx:DataW.trod enc Tryz.prog W 0 spare held n 5 cs=some x):∃ b:UInt8,([u8 b]:List PV).length=1∧∀ (i:Nat) (u:PV),([u8 b]:List PV)[i]?=some u→∀ v:Value,cs[i]?=some v→PRep W (·<W.heap.size) u v:=by
 obtain⟨a,e,_,w⟩:=DataW.trod_int Tryz.underlying5 hx
 obtain⟨b,rfl⟩:=u8e w
 refine⟨b,rfl,fun i u hu v hv=>?_⟩
 rw[e]at hv
 match i,hu,hv with
 |0,hu,hv=>simp at hu hv;subst hu;subst hv;exact v8v _ _
 |i+1,hu,hv=>simp at hu
set_option maxRecDepth 20000 in
theorem v1e {v:Value}{d:DataW H}{ps:List MemPlace}{r:Reach}{b0:Nat}{ι:Nat→Option Nat}
 (hval:Value.okWide Tryz.prog W r b0 24 v) (h:DataW.Trod enc Tryz.prog W 0 spare held 24 v d ps):∃ l:z7,ARep W (·<W.heap.size) ι (bA l) v:=
 v1c Tryz.underlying24 hval h (fun b:UInt8=>[u8 b]) 1 c5 (by decide) v8x
end
end Go.Proofs.YtinfbclgkghgaaaGreat.AL
