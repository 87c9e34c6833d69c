/- A part of the proof. -/
import Derived.ProofKit
import Derived.OpenShut
import Derived.ChangeOld
import Derived.Below
import Derived.SizedLaws
import Derived.Deep.Slices
import Derived.Lib.SmallJoins
import Derived.Laws.IdiomArrays
import Derived.Test.YtkjklhcfgbaceaaGreatRows
import Derived.JoinedOf
import Derived.Test.YtkjklhcfgbaceaaGreatScruhP
open Go.Proofs.Tryz renaming prog→k0q
open List renaming getElem?_eq_getElem→k0w,getD_eq_getElem?_getD→k0v,getElem?_eq_some_iff→k0t,getElem?_append_left→k0s,getElem?_append_right→k1q,getElem?_map→k1z,length_append→k1y,length_map→k1x,getElem_mem→k1w,take_add_one→k2t
open Int renaming toNat_natCast→k0u
open Nat renaming le_refl→k1v
open Bool renaming and_eq_true→k1u
set_option maxHeartbeats 8000000
set_option maxRecDepth 20000
namespace Go.Proofs.YtkjklhcfgbaceaaGreat.AL
open Go Go.Proofs Go.Proofs.YtkjklhcfgbaceaaGreat.AL.Crc
/-- A device was asked at most so often since. -/
def OpsR (D E:Dev)(c:Nat):Prop:=∃ (n:Nat) (q:Int),n≤c∧E.ops=D.ops+n+q*18446744073709551616
theorem OpsR.refl (D:Dev)(c:Nat):OpsR D D c:=⟨0,0,Nat.zero_le _,by omega⟩
theorem OpsR.same {D E:Dev}(h:E.ops=D.ops)(c:Nat):OpsR D E c:=⟨0,0,Nat.zero_le _,by omega⟩
theorem OpsR.trans {D E F:Dev}{c d:Nat}(h:OpsR D E c)(h2:OpsR E F d):OpsR D F (c+d):=by
 obtain⟨n,q,h1,h3⟩:=h
 obtain⟨n2,q2,h4,h5⟩:=h2
 exact⟨n+n2,q+q2,by omega,by omega⟩
theorem OpsR.mono {D E:Dev}{c d:Nat}(h:OpsR D E c)(hd:c≤d):OpsR D E d:=by
 obtain⟨n,q,h1,h3⟩:=h
 exact⟨n,q,by omega,h3⟩
theorem x3f (D:Dev):OpsR D D.count 1:=by
 show ∃ (n:Nat) (q:Int),n≤1∧IntKind.i64.wrap (D.ops+1)=_
 rw[IntKind.wrap_i64]
 refine⟨1,((D.ops+1+9223372036854775808) % 18446744073709551616 - 9223372036854775808 - (D.ops+1)) / 18446744073709551616,k1v _,?_⟩
 omega
theorem w1v (D:Dev)(a:Int):OpsR D (D.read a).2 1:=by
 unfold Dev.read
 split
 ·exact .refl D 1
 ·split
  ·exact .refl D 1
  ·exact x3f D
theorem u1f (D:Dev)(a:Int)(s:x8):(D.put a s).ops=D.ops:=by
 unfold Dev.put
 split
 ·rfl
 ·split
  ·rfl
  ·split <;> rfl
theorem v2g (D:Dev)(a:Int)(s:x8):OpsR D (D.write a s).2 1:=by
 unfold Dev.write
 split
 ·exact .refl D 1
 ·split
  ·exact .refl D 1
  ·split
   ·exact .refl D 1
   ·split
    ·exact .same rfl 1
    ·exact OpsR.trans (c:=0) (.same rfl 0) ((x3f D.lives).trans (d:=0) (.same (u1f _ _ _) 0))
theorem v2h (D:Dev):OpsR D D.flush.2 0:=by
 unfold Dev.flush
 split
 ·exact .refl D 0
 ·split
  ·exact .same rfl 0
  ·exact .same rfl 0
theorem v8i (D:Dev)(a:Int)(s:x8):OpsR D (D.once a s).2 2:=by
 have h1:=v2g D a s
 have h2:=h1.trans (v2h (D.write a s).2)
 unfold Dev.once
 split
 ·exact h1.mono (by omega)
 ·split
  ·exact h2.mono (by omega)
  ·have h3:=h2.trans (w1v (D.write a s).2.flush.2 a)
   unfold Dev.hhas
   split
   ·exact h3
   ·exact h3
theorem y3x {N:Nat}:∀ (ps:List Put9) {D:Dev} {b:Nat} (m:Int),(∀ p∈ps,x0q N p)→CleanP D N b →
 ∃ E m',q3u z4x ps D m=(0,(E,m'))∧CleanP E N (b+ps.length)∧E.cells=q0s ps D.cells∧OpsR D E (2*ps.length)
 |[],D,b,m,_,h=>⟨D,m,rfl,h,rfl,.refl D _⟩
 |p :: r,D,b,m,hp,h=>by
  obtain⟨h0,h1,h2⟩:=hp p (by simp)
  have hk:((p.at_.toNat:Nat):Int)=p.at_:=by omega
  obtain⟨E,g1,g2,g3⟩:=y3r h (k:=p.at_.toNat) (by omega) h2
  rw[hk]at g1
  have ho:=v8i D p.at_ p.s
  rw[g1]at ho
  have e1:D.one p.at_ p.s=(0,E):=by
   show Dev.tryK 4 D p.at_ p.s=_
   unfold Dev.tryK
   rw[g1];rfl
  have eg:z4x D m p.at_ p.s=(0,(E,y2z 0 m)):=by unfold z4x;rw[e1]
  obtain⟨F,m',k1,k2,k3,k4⟩:=y3x r (y2z 0 m) (fun q hq=>hp q (by simp[hq])) g2
  refine⟨F,m',?_,by rw[List.length_cons,show b+(r.length+1)=b+1+r.length by omega];exact k2,by rw[k3,g3];rfl,?_⟩
  ·rw[q4s,eg];exact k1
  ·rw[List.length_cons,show 2*(r.length+1)=2+2*r.length by omega]
   exact OpsR.trans ho k4
theorem w5u {N:Nat}(ps:List Put9){D:Dev}{b:Nat}(hp:∀ p∈ps,x0q N p)(h:CleanP D N b):∃ E,D.all9 ps=(0,E)∧CleanP E N (b+ps.length)∧E.cells=q0s ps D.cells∧OpsR D E (2*ps.length):=by
 obtain⟨E,m',h1,h2,h3,h4⟩:=y3x ps 0 hp h
 exact⟨E,by unfold Dev.all9;rw[h1],h2,h3,h4⟩
theorem u5b {D:Dev}{N b k:Nat}(h:LiveP D N b)(hk:k<N):(D.read k).1.1=u9 D k∧(D.read k).2=D.count:=by
 have e:D.read k=(((D.readAt k).2,(D.readAt k).1),D.count):=by unfold Dev.read;rw[h.dead,x5w h.len hk]
 refine⟨?_,by rw[e]⟩
 rw[e]
 show (D.readAt k).2=_
 unfold Dev.readAt u9
 rw[h.waits,k0u]
 show (match D.cells[k]? with|some c=>(match c.lost with|true=>((20,[]):Int × x8)|false=>(0,c.s))|none=>((20,[]):Int × x8)).2=_
 cases D.cells[k]? with
 |none=>rfl
 |some c=>
  show (match c.lost with|true=>((20,[]):Int × x8)|false=>((0,c.s):Int × x8)).2=match c.lost with|true=>[]|false=>c.s
  cases c.lost <;> rfl
theorem w1w {D:Dev}{N b:Nat}(h:LiveP D N b)(l:List Nat)(hl:∀ a∈l,a<N):∀ k,k≤l.length →
 (D.readsL (l.map fun a:Nat=>(a:Int)) k).1=(l.take k).map (u9 D)∧LiveP (D.readsL (l.map fun a:Nat=>(a:Int)) k).2 N b∧(D.readsL (l.map fun a:Nat=>(a:Int)) k).2.cells=D.cells∧(D.readsL (l.map fun a:Nat=>(a:Int)) k).2.armed=D.armed∧OpsR D (D.readsL (l.map fun a:Nat=>(a:Int)) k).2 k
 |0,_=>⟨rfl,h,rfl,rfl,.refl D 0⟩
 |k+1,hk=>by
  obtain⟨h1,h2,h3,h4,h5⟩:=w1w h l hl k (by omega)
  have hx:=k0w (show k<l.length by omega)
  have hm:=hl _ (k1w (show k<l.length by omega))
  generalize l[k]=a at hx hm
  have e2:(l.map fun a:Nat=>(a:Int)).getD k 0=a:=by rw[k0v,k1z,hx];rfl
  show ((D.readsL (l.map fun a:Nat=>(a:Int)) k).1++[((D.readsL (l.map fun a:Nat=>(a:Int)) k).2.read ((l.map fun a:Nat=>(a:Int)).getD k 0)).1.1]=_)∧LiveP ((D.readsL (l.map fun a:Nat=>(a:Int)) k).2.read ((l.map fun a:Nat=>(a:Int)).getD k 0)).2 N b∧((D.readsL (l.map fun a:Nat=>(a:Int)) k).2.read ((l.map fun a:Nat=>(a:Int)).getD k 0)).2.cells=D.cells∧((D.readsL (l.map fun a:Nat=>(a:Int)) k).2.read ((l.map fun a:Nat=>(a:Int)).getD k 0)).2.armed=D.armed∧OpsR D ((D.readsL (l.map fun a:Nat=>(a:Int)) k).2.read ((l.map fun a:Nat=>(a:Int)).getD k 0)).2 (k+1)
  rw[e2]
  generalize D.readsL (l.map fun a:Nat=>(a:Int)) k=Y at h1 h2 h3 h4 h5
  obtain⟨T,E⟩:=Y
  have h1:T=(l.take k).map (u9 D):=h1
  have h2:LiveP E N b:=h2
  obtain⟨r1,r2⟩:=u5b h2 hm
  show T++[(E.read a).1.1]=_∧LiveP (E.read a).2 N b∧(E.read a).2.cells=D.cells∧(E.read a).2.armed=D.armed∧OpsR D (E.read a).2 (k+1)
  refine⟨?_,by rw[r2];exact⟨h2.ok.count,h2.dead,h2.waits,h2.len,h2.well⟩,by rw[r2];exact h3,by rw[r2];exact h4,OpsR.trans h5 (w1v E a)⟩
  rw[r1,h1,k2t,hx,List.map_append]
  have:u9 E a=u9 D a:=by unfold u9;rw[show E.cells=D.cells from h3]
  rw[this];rfl
theorem LiveP.clean {D:Dev}{N b:Nat}(h:LiveP D N b)(ha:D.armed=false):CleanP D N b:=⟨h.ok,h.dead,ha,h.waits,h.len,h.well⟩
variable {x:Sup} {next:Int} {w k m S:Nat} {P:List Pc} {B:x8} {D:Dev}
theorem LaidP.fin (h:LaidP x next w k m S P B D){a:Nat}(ha:a<x.g.secs):∃ s,D.cells[a]?=some (q2w s)∧q0u s=true∧s.length=256:=by
 obtain⟨⟨st0,st1⟩,hg⟩:=h.start
 obtain⟨n1,n2,n3,n4,n5,n6⟩:=h.G.nat
 obtain⟨e1,e2,e3,e4,e5,e6,e7,e8⟩:=h.geo.le
 have hww:=h.hw
 have hsec:x.g.secs=4+2*w+2*(S*(k+m)):=by rw[e7,Nat.mul_assoc]
 by_cases c1:a<4
 ·refine⟨_,h.sup a c1,?_,?_⟩
  ·rw[(z6i h.xm (show (0:Int)≤(a:Int) by omega) (by omega)).1];exact q8n _
  ·rw[(z6i h.xm (show (0:Int)≤(a:Int) by omega) (by omega)).1]
   show (J5 _).length=256
   rw[q3r,q6q _ (x6n h.xm (show (0:Int)≤(a:Int) by omega) (by omega)).2]
 ·by_cases c2:a<4+2*w
  ·by_cases c3:a<4+w
   ·obtain⟨s,q1,q2,q3⟩:=h.log.whole hg h.vol (fun i p hi=>(h.pc i p hi).1) (k:=((a - 4:Nat):Int)) (m:=0) (by omega) (by omega) (.inl rfl)
    rw[y0t,show ((4:Int)+((a - 4:Nat):Int)).toNat=a by omega]at q1
    exact⟨s,q1,q2,q3⟩
   ·obtain⟨s,q1,q2,q3⟩:=h.log.whole hg h.vol (fun i p hi=>(h.pc i p hi).1) (k:=((a - 4 - w:Nat):Int)) (m:=1) (by omega) (by omega) (.inr rfl)
    rw[y0u,show ((4:Int)+x.g.w+((a - 4 - w:Nat):Int)).toNat=a by omega]at q1
    exact⟨s,q1,q2,q3⟩
  ·obtain⟨A,hA⟩:∃ A:Nat,x.area=A:=⟨x.area.toNat,by have:=h.G.a0;omega⟩
   have hA1:A≤1:=by have:=h.G.a1;omega
   have b1:=z1f h.geo hA
   have b2:=z1f (area:=1 - x.area) h.geo (A:=1 - A) (by omega)
   by_cases c3:x.g.base x.area≤a∧a<x.g.base x.area+S*(k+m)
   ·have hn:0<k+m:=by omega
    have e:=y3d (t:=a - x.g.base x.area) hn
    have hs:(a - x.g.base x.area) / (k+m)<S:=Nat.div_lt_of_lt_mul (by rw[Nat.mul_comm];omega)
    have hi:(a - x.g.base x.area) % (k+m)<k+m:=Nat.mod_lt _ hn
    have ht:=h.snap.there _ _ hs hi
    rw[← e,show x.g.base x.area+(a - x.g.base x.area)=a by omega]at ht
    obtain⟨q1,q2,_⟩:=h.G.sector h.hB hs hi
    exact⟨_,ht,q2,q1⟩
   ·have ht:=h.other a (by
     rcases (show A=0∨A=1 by omega) with rfl|rfl
     ·rw[b2];rw[b1]at c3;omega
     ·rw[b2];rw[b1]at c3;omega) (by
     rcases (show A=0∨A=1 by omega) with rfl|rfl
     ·rw[b2];rw[b1]at c3;omega
     ·rw[b2];rw[b1]at c3;omega)
    obtain⟨q1,q2⟩:=y9q h.vol (k:=a) (by omega)
    exact⟨_,ht,q1,q2⟩
theorem LaidP.len256 (h:LaidP x next w k m S P B D){a:Nat}(ha:a<x.g.secs):(u9 D a).length=256:=by
 obtain⟨s,q1,_,q3⟩:=h.fin ha
 rw[q0v q1];exact q3
theorem u2b (h:LaidP x next w k m S P B D){E:Dev}(hl:E.cells.length=x.g.secs){i:Nat}(hi:i<1+w+2*S):z1b E x next i=match E.dead with|true=>21|false=>0:=by
 obtain⟨⟨st0,st1⟩,hg⟩:=h.start
 have hm:=h.most
 have hn:=h.nx
 have hf:=h.fit
 have hww:=h.hw
 unfold z1b
 rw[h.xm,k1s (show ¬ next<x.start by omega),k1s (show ¬ next > 4294967295 by omega),k1s (show ¬ next - x.start > x.g.w by omega),h.geo.sectors,hl,k1s (show ¬ ((x.g.secs:Nat):Int)<(x.g.secs:Int) by omega),k1s (show ¬ (i:Int)<0 by omega),h.geo.groups,k1s (show ¬ (i:Int)≥((1+w+2*S:Nat):Int) by omega)]
 rfl
theorem q9v (h:LaidP x next w k m S P B D){i:Nat}(hi:i<1+w+2*S){a:Nat}(ha:a∈Z8 w (k+m) i):a<x.g.secs∧z6r w (k+m) a=i:=by
 obtain⟨e1,e2,e3,e4,e5,e6,e7,e8⟩:=h.geo.le
 have:=(x2x (s:=2*S) (by omega) hi).mp ha
 rw[e7];exact this
theorem v8j (h:LaidP x next w k m S P B D){E:Dev}{b:Nat}(hC:LiveP E x.g.secs b){i:Nat}(hi:i<1+w+2*S) :
 ∃ F,E.want x next i=(q5x x next i ((Z8 w (k+m) i).map fun a:Nat=>(a:Int)) ((Z8 w (k+m) i).map (u9 E)),F)∧LiveP F x.g.secs b∧F.cells=E.cells∧F.armed=E.armed∧OpsR E F (Z8 w (k+m) i).length:=by
 have hm:=u2b h hC.len hi
 rw[hC.dead]at hm
 have hm:z1b E x next i=0:=hm
 obtain⟨r1,r2,r3,r4,r5⟩:=w1w hC (Z8 w (k+m) i) (fun a ha=>(q9v h hi ha).1) _ (k1v _)
 rw[List.take_length]at r1
 refine⟨_,?_,r2,r3,r4,r5⟩
 unfold Dev.want
 rw[hm,h.geo.memb i,k1x,r1]
 rfl
theorem u3y (h:LaidP x next w k m S P B D){i:Nat}(hi:i<1+w+2*S)(v:Nat→x8):∀ p∈(bdL v (u9 D) (Z8 w (k+m) i)).map (y0z (u9 D)),x0q x.g.secs p:=fun p hp=>by
 rw[List.mem_map]at hp
 obtain⟨a,ha,rfl⟩:=hp
 have hm:=(q9v h hi (List.mem_filter.mp ha).1).1
 exact⟨by show (0:Int)≤(a:Int);omega,by show (a:Int)<_;omega,h.len256 hm⟩
theorem y9t (sh:Nat→x8):∀ (l:List Nat) (cs:List Cell),(∀ a∈l,a<cs.length)→∀ a,(q0s (l.map (y0z sh)) cs)[a]?=if a∈l then some (q2w (sh a)) else cs[a]?
 |[],cs,_,a=>by rw[if_neg (by simp)];rfl
 |b :: r,cs,hl,a=>by
  show (q0s (r.map (y0z sh)) (cs.set ((b:Nat):Int).toNat (q2w (sh b))))[a]?=_
  rw[k0u,y9t sh r _ (fun c hc=>by rw[List.length_set];exact hl c (by simp[hc])) a]
  by_cases e:a∈r
  ·rw[if_pos e,if_pos (List.mem_cons_of_mem _ e)]
  ·rw[if_neg e,List.getElem?_set]
   by_cases e2:b=a
   ·subst e2
    rw[if_pos rfl,if_pos (hl b (by simp)),if_pos (by simp)]
   ·rw[if_neg e2,if_neg (by simp only[List.mem_cons,not_or];exact⟨fun h=>e2 h.symm,e⟩)]
theorem w5v {sh:Nat→x8}{E F:Dev}{l:List Nat}(hF:F.cells=q0s (l.map (y0z sh)) E.cells)(hl:∀ a∈l,a<E.cells.length)(a:Nat):u9 F a=if a∈l then sh a else u9 E a:=by
 have:=y9t sh l E.cells hl a
 rw[← hF]at this
 by_cases e:a∈l
 ·rw[if_pos e]at this ⊢
  exact q0v this
 ·rw[if_neg e]at this ⊢
  unfold u9
  rw[this]
theorem u1g {E F:Dev}{D:Dev}{l:List Nat}(hF:F.cells=q0s ((bdL (u9 E) (u9 D) l).map (y0z (u9 D))) E.cells)(hl:∀ a∈l,a<E.cells.length)(a:Nat):u9 F a=if a∈l then u9 D a else u9 E a:=by
 rw[w5v hF (fun a ha=>hl a (List.mem_filter.mp ha).1) a]
 by_cases e:a∈l
 ·rw[if_pos e]
  by_cases e2:u9 D a=u9 E a
  ·have hm:¬ a∈bdL (u9 E) (u9 D) l:=fun hm=>by
    have:=(List.mem_filter.mp hm).2
    rw[e2,beq_self_eq_true]at this
    exact absurd this (by decide)
   rw[if_neg hm]
   exact e2.symm
  ·have hm:a∈bdL (u9 E) (u9 D) l:=List.mem_filter.mpr ⟨e,by rw[beq_eq_false_iff_ne.mpr e2];rfl⟩
   rw[if_pos hm]
 ·have hm:¬ a∈bdL (u9 E) (u9 D) l:=fun hm=>e (List.mem_filter.mp hm).1
  rw[if_neg e,if_neg hm]
theorem u3z (h:LaidP x next w k m S P B D){E:Dev}{b:Nat}(hC:CleanP E x.g.secs b)(hE:y9s D E x.g.secs){i:Nat}(hi:i<1+w+2*S)(hok:¬ y1a x w S P i∨(bdL (u9 E) (u9 D) (Z8 w (k+m) i)).length≤y1c w m i) :
 ∃ F,E.step x next i=(((((bdL (u9 E) (u9 D) (Z8 w (k+m) i)).length:Nat):Int),0),F)∧CleanP F x.g.secs (b+24)∧(∀ a,u9 F a=if a∈Z8 w (k+m) i then u9 D a else u9 E a)∧OpsR E F (3*(Z8 w (k+m) i).length):=by
 obtain⟨R,w1,w2,w3,w4,w5⟩:=v8j h hC.live hi
 rw[(w1u h hC hE hi).1 hok]at w1
 have hR:=w2.clean (w4.trans hC.armed)
 obtain⟨F,f1,f2,f3,f4⟩:=w5u _ (u3y h hi (u9 E)) hR
 have hle:=List.length_filter_le (fun a=>!(u9 D a==u9 E a)) (Z8 w (k+m) i)
 have hm24:(Z8 w (k+m) i).length≤24:=by
  obtain⟨e1,e2,e3,e4,e5,e6,e7,e8⟩:=h.geo.le
  rw[z6g]
  split
  ·omega
  ·split <;> omega
 have hle:(bdL (u9 E) (u9 D) (Z8 w (k+m) i)).length≤(Z8 w (k+m) i).length:=hle
 rw[k1x]at f2 f4
 refine⟨F,?_,f2.mono (by omega),?_,?_⟩
 ·unfold Dev.step
  rw[w1]
  show (match (R.all9 _).1 != 0 with|true=>_|false=>_)=_
  rw[f1,k1x];rfl
 ·rw[w3]at f3
  exact u1g f3 (fun a ha=>by rw[hC.len];exact(q9v h hi ha).1)
 ·exact(w5.trans f4).mono (by omega)
end Go.Proofs.YtkjklhcfgbaceaaGreat.AL
namespace Go.Proofs.YtkjklhcfgbaceaaGreat.AL
open Go Go.Proofs Go.Proofs.YtkjklhcfgbaceaaGreat.AL.Crc
theorem w1x {s:x8}{by_:Nat→UInt8}{a:Nat}:∀ k,chd by_ k=false→chg s by_ a k=s
 |0,_=>rfl
 |k+1,h=>by
  have h:(chd by_ k||by_ k != 0)=false:=h
  rw[Bool.or_eq_false_iff]at h
  have h2:by_ k=0:=by simpa using h.2
  show (chg s by_ a k).set (a+k) ((chg s by_ a k).getD (a+k) 0 ^^^ by_ k)=s
  rw[w1x k h.1,h2,UInt8.xor_zero]
  refine List.ext_getElem? fun j=>?_
  rw[List.getElem?_set]
  by_cases e:a+k=j
  ·subst e
   rw[if_pos rfl]
   by_cases hl:a+k<s.length
   ·rw[if_pos hl,k0v,k0w hl];rfl
   ·rw[if_neg hl,List.getElem?_eq_none (by omega)]
  ·rw[if_neg e]
theorem v8k {f:Flt}{s:x8}(hw:q0u s=true)(hl:s.length=256)(k1:1≤f.kind)(k3:f.kind≤3)(o0:0≤f.off)(o1:f.off≤252):w1n (z6s f (q2w s))=s∨(W0 (w1n (z6s f (q2w s)))).2≠0:=by
 by_cases k:f.kind=1
 ·cases hm:chd f.m 4 with
  |true=>exact .inr (w8c hw hl k1 k3 o0 o1 fun _=>hm)
  |false=>
   left
   unfold z6s
   rw[if_pos k]
   show q7a f s 4=s
   rw[y9p f s hl o0 o1 4 (k1v _),w1x 4 hm]
 ·exact .inr (w8c hw hl k1 k3 o0 o1 fun h=>absurd h k)
theorem u2c {v v' sh:Nat→x8}{a:Nat}:∀ {l:List Nat},l.Pairwise (· < ·)→(∀ c∈l,c≠a→v' c=v c)→(bdL v' sh l).length≤(bdL v sh l).length+(if a∈l then 1 else 0)
 |[],_,_=>Nat.zero_le _
 |c :: r,hp,h=>by
  obtain⟨h1,h2⟩:=List.pairwise_cons.mp hp
  have ih:=u2c (a:=a) (sh:=sh) h2 fun c hc=>h c (List.mem_cons_of_mem _ hc)
  have e1:=z2q v' sh [c] r
  have e2:=z2q v sh [c] r
  rw[List.singleton_append]at e1 e2
  rw[e1,e2,k1y,k1y]
  by_cases e:c=a
  ·subst e
   rw[if_pos (by simp)]
   have hn:¬ c∈r:=fun hc=>by have:=h1 c hc;omega
   rw[if_neg hn]at ih
   have:(bdL v' sh [c]).length≤1:=by rw[q7t];split <;> simp
   omega
  ·rw[show bdL v' sh [c]=bdL v sh [c] by rw[q7t,q7t,h c (by simp) e]]
   by_cases e2:a∈r
   ·rw[if_pos e2]at ih;rw[if_pos (List.mem_cons_of_mem _ e2)];omega
   ·rw[if_neg e2]at ih
    rw[if_neg (by simp only[List.mem_cons,not_or];exact⟨fun h=>e h.symm,e2⟩)];omega
theorem v8m {v v' sh:Nat→x8}:∀ {l:List Nat},(∀ c∈l,v' c=v c∨v' c=sh c)→(bdL v' sh l).length≤(bdL v sh l).length
 |[],_=>Nat.zero_le _
 |c :: r,h=>by
  have ih:=v8m (sh:=sh) fun c hc=>h c (List.mem_cons_of_mem _ hc)
  have e1:=z2q v' sh [c] r
  have e2:=z2q v sh [c] r
  rw[List.singleton_append]at e1 e2
  rw[e1,e2,k1y,k1y,q7t,q7t]
  rcases h c (by simp) with e|e
  ·rw[e];omega
  ·rw[e,beq_self_eq_true]
   show 0+_≤_
   omega
theorem x6p {v v' sh:Nat→x8}{l:List Nat}(h:∀ c∈l,v' c=v c):bdL v' sh l=bdL v sh l:=by
 unfold bdL
 exact List.filter_congr fun c hc=>by rw[h c hc]
theorem x6q {v sh:Nat→x8}{l:List Nat}(h:∀ c∈l,v c=sh c):bdL v sh l=[]:=by
 unfold bdL
 rw[List.filter_eq_nil_iff]
 intro c hc
 rw[h c hc,beq_self_eq_true];exact Bool.false_ne_true
theorem u1h {v sh:Nat→x8}{l:List Nat}(h:(bdL v sh l).length=0){c:Nat}(hc:c∈l):v c=sh c:=by
 have h:=List.eq_nil_of_length_eq_zero h
 unfold bdL at h
 rw[List.filter_eq_nil_iff]at h
 have:=h c hc
 rw[Bool.not_eq_true,Bool.not_eq_false']at this
 exact(beq_iff_eq.mp this).symm
def y3e (v sh:Nat→x8)(w n:Nat):Nat→List Nat
 |0=>[]
 |j+1=>y3e v sh w n j++bdL v sh (Z8 w n j)
def q7u (v sh:Nat→x8)(w n j:Nat):Nat:=(y3e v sh w n j).length
theorem z1g (v sh:Nat→x8)(w n j:Nat):q7u v sh w n (j+1)=q7u v sh w n j+(bdL v sh (Z8 w n j)).length:=k1y
theorem v8n {v v' sh:Nat→x8}{w n i0:Nat}:∀ j,(∀ i,i<j→(bdL v' sh (Z8 w n i)).length≤(bdL v sh (Z8 w n i)).length+(if i=i0 then 1 else 0))→q7u v' sh w n j≤q7u v sh w n j+(if i0<j then 1 else 0)
 |0,_=>Nat.zero_le _
 |j+1,h=>by
  have ih:=v8n j fun i hi=>h i (by omega)
  have hj:=h j (by omega)
  rw[z1g,z1g]
  by_cases e:j=i0
  ·rw[if_pos e]at hj;rw[if_neg (by omega)]at ih;rw[if_pos (by omega)];omega
  ·rw[if_neg e]at hj
   by_cases e2:i0<j
   ·rw[if_pos e2]at ih;rw[if_pos (by omega)];omega
   ·rw[if_neg e2]at ih;rw[if_neg (by omega)];omega
theorem y9u {v sh:Nat→x8}{w n:Nat}:∀ j,(∀ i,i<j→(bdL v sh (Z8 w n i)).length=0)→q7u v sh w n j=0
 |0,_=>rfl
 |j+1,h=>by
  rw[z1g,y9u j fun i hi=>h i (by omega),h j (by omega)]
theorem w1y {v v' sh:Nat→x8}{w n i0:Nat}(h0:(bdL v' sh (Z8 w n i0)).length=0):∀ j,(∀ i,i<j→i≠i0→(bdL v' sh (Z8 w n i)).length=(bdL v sh (Z8 w n i)).length)→q7u v' sh w n j+(if i0<j then (bdL v sh (Z8 w n i0)).length else 0)=q7u v sh w n j
 |0,_=>rfl
 |j+1,h=>by
  have ih:=w1y h0 j fun i hi=>h i (by omega)
  rw[z1g,z1g]
  by_cases e:j=i0
  ·subst e
   rw[if_neg (by omega)]at ih
   rw[if_pos (by omega),h0];omega
  ·have hj:=h j (by omega) e
   by_cases e2:i0<j
   ·rw[if_pos e2]at ih;rw[if_pos (by omega)];omega
   ·rw[if_neg e2]at ih;rw[if_neg (by omega)];omega
variable {x:Sup} {next:Int} {w k m S:Nat} {P:List Pc} {B:x8} {D:Dev}
structure BornP (x:Sup) (w k m S:Nat) (D E:Dev) (b:Nat):Prop where
 clean:CleanP E x.g.secs b
 near:y9s D E x.g.secs
 bear:∀ i,i<1+w+2*S→(bdL (u9 E) (u9 D) (Z8 w (k+m) i)).length≤y1c w m i
theorem BornP.mono {E:Dev}{b c:Nat}(h:BornP x w k m S D E b)(hc:b≤c):BornP x w k m S D E c:=⟨h.clean.mono hc,h.near,h.bear⟩
theorem BornP.of {E F:Dev}{b c:Nat}(h:BornP x w k m S D E b)(hF:CleanP F x.g.secs c)(hv:∀ a,a<x.g.secs→u9 F a=u9 E a∨u9 F a=u9 D a)(hg:∀ i a,i<1+w+2*S→a∈Z8 w (k+m) i→a<x.g.secs):BornP x w k m S D F c:=
 ⟨hF,fun a ha=>by
  rcases hv a ha with e|e
  ·rw[e];exact h.near a ha
  ·exact .inl e,fun i hi=>Nat.le_trans (v8m fun c hc=>hv c (hg i c hi hc)) (h.bear i hi)⟩
theorem LaidP.hg (h:LaidP x next w k m S P B D):∀ i a,i<1+w+2*S→a∈Z8 w (k+m) i→a<x.g.secs:=fun _ _ hi ha=>(q9v h hi ha).1
theorem v2i (h:LaidP x next w k m S P B D){E F:Dev}{i:Nat}(hi:i<1+w+2*S)(hv:∀ a,u9 F a=if a∈Z8 w (k+m) i then u9 D a else u9 E a):(bdL (u9 F) (u9 D) (Z8 w (k+m) i)).length=0∧∀ j,j<1+w+2*S→j≠i→bdL (u9 F) (u9 D) (Z8 w (k+m) j)=bdL (u9 E) (u9 D) (Z8 w (k+m) j):=by
 refine⟨by rw[x6q fun c hc=>by rw[hv c,if_pos hc]];rfl,fun j hj hji=>x6p fun c hc=>?_⟩
 rw[hv c,if_neg (fun hc2=>?_)]
 have q1:=(q9v h hi hc2).2
 have q2:=(q9v h hj hc).2
 omega
theorem x3g (h:LaidP x next w k m S P B D){E:Dev}{b:Nat}(hB:BornP x w k m S D E b){i:Nat}(hi:i<1+w+2*S) :
 ∃ F,E.step x next i=(((((bdL (u9 E) (u9 D) (Z8 w (k+m) i)).length:Nat):Int),0),F)∧BornP x w k m S D F (b+24)∧(bdL (u9 F) (u9 D) (Z8 w (k+m) i)).length=0∧(∀ j,j<1+w+2*S→j≠i→bdL (u9 F) (u9 D) (Z8 w (k+m) j)=bdL (u9 E) (u9 D) (Z8 w (k+m) j)) ∧
 q7u (u9 F) (u9 D) w (k+m) (1+w+2*S)+(bdL (u9 E) (u9 D) (Z8 w (k+m) i)).length=q7u (u9 E) (u9 D) w (k+m) (1+w+2*S):=by
 obtain⟨F,f1,f2,f3,f4⟩:=u3z h hB.clean hB.near hi (.inr (hB.bear i hi))
 obtain⟨g1,g2⟩:=v2i h hi f3
 have ht:=w1y (v:=u9 E) (v':=u9 F) g1 (1+w+2*S) fun j hj hji=>by rw[g2 j hj hji]
 rw[if_pos hi]at ht
 exact⟨F,f1,hB.of f2 (fun a ha=>by rw[f3 a];split;exact .inr rfl;exact .inl rfl) h.hg,g1,g2,ht⟩
theorem w8d (h:LaidP x next w k m S P B D){E:Dev}{b:Nat}(hC:CleanP E x.g.secs b)(hE:y9s D E x.g.secs)(hok:∀ i,i<1+w+2*S→(bdL (u9 E) (u9 D) (Z8 w (k+m) i)).length≤y1c w m i):∀ j,j≤1+w+2*S →
 (E.hurtG x next j).1=(y3e (u9 E) (u9 D) w (k+m) j).map (fun a:Nat=>(a:Int))∧CleanP (E.hurtG x next j).2 x.g.secs b∧(E.hurtG x next j).2.cells=E.cells
 |0,_=>⟨rfl,hC,rfl⟩
 |j+1,hj=>by
  obtain⟨h1,h2,h3⟩:=w8d h hC hE hok j (by omega)
  show (E.hurtG x next j).1++(cond (((E.hurtG x next j).2.want x next j).1.2 != 0) (q1z x.g j) []++((E.hurtG x next j).2.want x next j).1.1.map (·.at_))=_∧CleanP ((E.hurtG x next j).2.want x next j).2 x.g.secs b∧((E.hurtG x next j).2.want x next j).2.cells=E.cells
  generalize E.hurtG x next j=Y at h1 h2 h3
  obtain⟨T,G⟩:=Y
  have h1:T=(y3e (u9 E) (u9 D) w (k+m) j).map (fun a:Nat=>(a:Int)):=h1
  have h2:CleanP G x.g.secs b:=h2
  have h3:G.cells=E.cells:=h3
  have hc:∀ a,u9 G a=u9 E a:=fun a=>by unfold u9;rw[h3]
  have hb:bdL (u9 G) (u9 D) (Z8 w (k+m) j)=bdL (u9 E) (u9 D) (Z8 w (k+m) j):=x6p fun c _=>hc c
  obtain⟨R,w1,w2,w3,w4,_⟩:=v8j h h2.live (show j<1+w+2*S by omega)
  rw[(w1u h h2 (fun a ha=>by rw[hc a];exact hE a ha) (show j<1+w+2*S by omega)).1 (.inr (by rw[hb];exact hok j (by omega))),hb]at w1
  show T++(cond ((G.want x next j).1.2 != 0) (q1z x.g j) []++(G.want x next j).1.1.map (·.at_))=_∧CleanP (G.want x next j).2 x.g.secs b∧(G.want x next j).2.cells=E.cells
  rw[w1]
  refine⟨?_,w2.clean (w4.trans h2.armed),w3.trans h3⟩
  show T++([]++((bdL (u9 E) (u9 D) (Z8 w (k+m) j)).map (y0z (u9 D))).map (·.at_))=(y3e (u9 E) (u9 D) w (k+m) j++bdL (u9 E) (u9 D) (Z8 w (k+m) j)).map _
  rw[h1,List.nil_append,List.map_append,List.map_map];rfl
theorem y5h (h:LaidP x next w k m S P B D){E:Dev}{b:Nat}(hB:BornP x w k m S D E b) :
 ∃ F,E.hurts x next=((q3v ((y3e (u9 E) (u9 D) w (k+m) (1+w+2*S)).map (fun a:Nat=>(a:Int))),0),F)∧BornP x w k m S D F b∧F.cells=E.cells:=by
 obtain⟨h1,h2,h3⟩:=w8d h hB.clean hB.near hB.bear _ (k1v _)
 have hm:=u2b h hB.clean.len (show 0<1+w+2*S by omega)
 rw[hB.clean.dead]at hm
 have hm:z1b E x next 0=0:=hm
 have hc:∀ a,u9 (E.hurtG x next (1+w+2*S)).2 a=u9 E a:=fun a=>by unfold u9;rw[h3]
 refine⟨_,?_,hB.of h2 (fun a _=>.inl (hc a)) h.hg,h3⟩
 unfold Dev.hurts
 rw[hm,h.geo.groups,k0u,h1]
 rfl
end Go.Proofs.YtkjklhcfgbaceaaGreat.AL
namespace Go.Proofs.YtkjklhcfgbaceaaGreat.AL
open Go Go.Proofs Go.Proofs.YtkjklhcfgbaceaaGreat.AL.Crc
theorem v8p {vol:Int}{g:GeoV}{epoch start next chain:Int}(h:y9a vol g epoch start next chain=true):(u3u vol g epoch start next chain).Ok:=by
 unfold y9a at h
 rw[k1u,k1u,k1u]at h
 obtain⟨hg,hw,h1,h2⟩:=h
 have hv:Y9 vol=true:=by simp only[List.all_cons,Bool.and_eq_true]at hw;exact hw.1
 unfold Y9 at hw
 simp only[List.all_cons,List.all_nil,Bool.and_true,Bool.and_eq_true,decide_eq_true_eq]at hw
 obtain⟨q1,q2,q3,q4,q5⟩:=hw
 have h1:=k0y ((Bool.not_eq_true' _).mp h1)
 exact⟨hg,hv,q2,⟨q4.1,Int.le_refl _⟩,⟨q3.1,by show start≤next;omega⟩,q4.2,q5⟩
end Go.Proofs.YtkjklhcfgbaceaaGreat.AL
namespace Go.Proofs.YtkjklhcfgbaceaaGreat.AL
open Go Go.Proofs
def Sup.put (x:Sup)(k:Nat):Put9:=⟨(k:Int),(x.sector k).1⟩
def Sup.puts (x:Sup):List Put9:=(List.range 4).map x.put
def Dev.install (D:Dev)(x:Sup):Int × Dev:=match x.may with
 |false=>(1,D)
 |true=>D.all9 x.puts
theorem u1i (l:List Put9)(p:Put9):px (l++[p])=px l++[p.pv]:=by simp[px]
theorem w5w {x:Sup}{k:Nat}(h:k<4):(x.sector k).2=match x.may with|true=>0|false=>1:=by
 cases hm:x.may with
 |true=>rw[(z6i hm (show (0:Int)≤(k:Int) by omega) (by omega)).1]
 |false=>unfold Sup.sector;rw[hm];rfl
theorem w1z (D:Dev)(x:Sup)(b:Nat)(hD:D.Ok b)(hb:b+16<1000000):AFm k0q 1 y9z [.ref 0 0,x.av] (Y0 D) (Q8 (i64 (D.install x).1) (Y0 (D.install x).2)):=by
 refine AFm.mono (R:=fun r H'=>∃ z,z=D.install x∧r=i64 z.1∧H'=Y0 z.2) ?_ (by rintro r H' ⟨b,rfl,rfl,rfl⟩;exact⟨rfl,rfl⟩)
 refine Z5 1 hT Tryz.func31 rfl rfl Tryz.ntmps31 rfl rfl ?_
 refine z7 hT ?_
 refine Z2 (Z3 3 x.pv rfl rfl) ?_
 refine w9 ⟨⟨31,[(0,.ref 0 0),(3,.p (.box x.pv)),(5,.msl 3 2 0 0)]⟩,Y0 D++[.row X9 2 []]⟩ True (z8 hT ?_) (fun _=>?_)
 ·exact⟨Wk.trans (z6 [0,1,2] [0,3,5] rfl) (Wk.trans (V0 X9 2) (Wk.trans (q4p 5 3 2 0 rfl) (z6 [0,1,2,3] [0,3,5] rfl))),trivial⟩
 refine w9 ⟨⟨31,[(0,.ref 0 0),(5,.p (.sl 2 (px x.puts)))]⟩,Y0 D⟩ (x.may=true) (z7 hT ?_) ?_
 ·refine y8 ?_
  refine Q2 (fun n s=>∃ (k:Nat) (j:Int) (L:List Put9),n+k=4∧j=k∧L=(List.range k).map x.put∧(0<k→x.may=true)∧s=⟨⟨31,[(0,.ref 0 0),(3,.p (.box x.pv)),(5,.msl 3 2 0 (px L).length),(9,i64 j)]⟩,Y0 D++[.row X9 2 (px L)]⟩) 4 ⟨⟨31,_⟩,_⟩ (z6 [0,1,2,3] [0,3,5,9] rfl) ⟨0,0,[],rfl,rfl,rfl,fun h=>absurd h (by omega),rfl⟩ ?_
  rintro n s ⟨k,j,L,hnk,rfl,hL,hm,rfl⟩
  have hLl:L.length=k:=by rw[hL];simp
  have hpl:=z8j L
  refine z7 hT ?_
  refine u6 (y6 (u7 (fun h=>?_) (fun h=>?_)))
  ·have hk:k<4:=by
    have:=k0z (show decide ((k:Int)<4)=true from h)
    omega
   have w:=y8z x k
   have herr:=w5w (x:=x) hk
   have eL:(List.range (k+1)).map x.put=L++[⟨(k:Int),(x.sector k).1⟩]:=by rw[List.range_succ,List.map_append,hL];rfl
   generalize x.sector (k:Int)=Y at w herr eL
   obtain⟨t,f⟩:=Y
   have w:AF k0q z9k [x.av,i64 k] [] (Q8 (.tup [bA t,i64 f]) []):=w
   have herr:f=match x.may with|true=>0|false=>1:=herr
   have eL:(List.range (k+1)).map x.put=L++[⟨(k:Int),t⟩]:=eL
   refine x6 ?_
   refine w9 ⟨⟨31,[(0,.ref 0 0),(3,.p (.box x.pv)),(5,.msl 3 2 0 (px (L++[⟨(k:Int),t⟩])).length),(9,i64 k)]⟩,Y0 D++[.row X9 2 (px (L++[⟨(k:Int),t⟩]))]⟩ (x.may=true) (y8 (z7 hT ?_)) ?_
   ·refine z7 hT ?_
    refine Q1 (Q4 w _ rfl rfl) ?_
    refine w9 ⟨⟨31,[(0,.ref 0 0),(3,.p (.box x.pv)),(5,.msl 3 2 0 (px L).length),(6,i64 k),(7,bA t),(9,i64 k)]⟩,Y0 D++[.row X9 2 (px L)]⟩ (x.may=true) (z7 hT ?_) ?_
    ·refine y6 (u7 (fun h=>?_) (fun h=>?_))
     ·have h:(f != 0)=true:=h
      have hz:(f,D)=D.install x:=by
       unfold Dev.install
       cases hmay:x.may with
       |true=>rw[hmay]at herr;rw[herr]at h;exact absurd h (by decide)
       |false=>rw[hmay]at herr;rw[herr]
      refine z7 hT ?_
      refine u0 ?_
      exact x7 [0,1,2] ⟨_,hz,rfl,rfl⟩ rfl
     ·have h:(f != 0)=false:=h
      have hmay:x.may=true:=by
       cases hmay:x.may with
       |true=>rfl
       |false=>rw[hmay]at herr;rw[herr]at h;exact absurd h (by decide)
      exact x6 ⟨z6 [0,1,2,3] [0,3,5,6,7,9] rfl,hmay⟩
    intro hmay
    refine X5 (fun k=>Nat.beq 4 k) hT ?_
    refine⟨⟨rfl,rfl⟩,?_⟩
    refine⟨rfl,⟨?_,?_⟩,?_⟩
    ·show ((px L).length+1)*32≤140737488355328
     omega
    ·show (px L).length+1≤140737488355328
     omega
    rw[u1i]
    exact⟨z6 [0,1,2,4] [0,3,5,9] rfl,hmay⟩
   ·intro hmay
    refine z8 hT ?_
    refine⟨n - 1,by omega,_,z6 [0,1,2,3] [0,3,5,9] rfl,k+1,IntKind.i64.wrap ((k:Int)+1),L++[⟨(k:Int),t⟩],by omega,?_,eL.symm,fun _=>hmay,rfl⟩
    rw[Q0 _ (by omega) (by omega)];rfl
  ·have hk:¬ (k:Int)<4:=k0y h
   have hk4:k=4:=by omega
   have hL4:L=x.puts:=by rw[hL,hk4];rfl
   refine Q6 ?_
   exact⟨Wk.trans (z5r 5 3 2 _ (by rw[hL4]) rfl rfl rfl) (z6 [0,1,2] [0,5] rfl),hm (by omega)⟩
 intro hmay
 have hz:D.install x=D.all9 x.puts:=by unfold Dev.install;rw[hmay]
 have w:=y0n D x.puts b hD (by show b+4*4<_;omega)
 rw[← hz]at w
 generalize D.install x=Z at w
 refine z7 hT ?_
 refine Q1 (Z7 [0,1,2] w rfl rfl rfl) ?_
 refine u0 ?_
 exact x7 [0,3,4] ⟨_,rfl,rfl,rfl⟩ rfl
end Go.Proofs.YtkjklhcfgbaceaaGreat.AL
namespace Go.Proofs.YtkjklhcfgbaceaaGreat.AL
open Go Go.Proofs Go.Proofs.YtkjklhcfgbaceaaGreat.AL.Crc
structure Plan where
 g:GeoV
 start:Int
 txs:List x8
 snap:x8
 area:Int
def Plan.rest (p:Plan):Bool:=!decide (p.g.s > 3)&&(!decide (p.g.k > 4)&&(!decide (p.g.m > 3)&&(!decide (p.area<0)&&(!decide (p.area > 1)&&(!decide (p.start<0)&&(!decide (p.start > 1000)&&(!decide ((p.txs.length:Int) > 9)&&!decide ((p.snap.length:Int) > IntKind.i64.wrap (IntKind.i64.wrap (p.g.s*p.g.k)*228)))))))))
def Plan.ok (p:Plan):Bool:=q9t 7 p.g&&p.rest
def Plan.sup (p:Plan):Sup:=⟨7,3,2,p.area,4,p.snap.length,p.start,5,p.g⟩
def Plan.ring (p:Plan):Rg:=u3u 7 p.g 2 p.start p.start 5
def apT (l:List x8)(R:Rg)(D:Dev):Nat→Rg × Dev
 |0=>(R,D)
 |k+1=>match l[k]? with
  |some s=>match decide ((s.length:Int)≤1500) with
   |true=>((apT l R D k).1.append (apT l R D k).2 s).2
   |false=>apT l R D k
  |none=>apT l R D k
theorem v2j {x:Sup}(hm:x.may=true){D:Dev}{N b:Nat}(h:CleanP D N b)(hN:4≤N) :
 ∃ E,D.install x=(0,E)∧CleanP E N (b+4)∧(∀ k:Nat,k<4→E.cells[k]?=some (q2w (x.sector k).1))∧∀ a,4≤a→E.cells[a]?=D.cells[a]?:=by
 have hl:∀ k:Nat,k<4→(x.sector k).1.length=256:=fun k hk=>by
  rw[(z6i hm (show (0:Int)≤(k:Int) by omega) (by omega)).1]
  show (J5 _).length=256
  rw[q3r,q6q _ (x6n hm (show (0:Int)≤(k:Int) by omega) (by omega)).2]
 have hp:x.puts=(List.range 4).map (y0z fun k=>(x.sector k).1):=rfl
 obtain⟨E,e1,e2,e3⟩:=y9r x.puts (N:=N) (by
  intro q hq
  rw[hp,List.mem_map]at hq
  obtain⟨k,hk,rfl⟩:=hq
  rw[List.mem_range]at hk
  exact⟨by show (0:Int)≤(k:Int);omega,by show (k:Int)<_;omega,hl k hk⟩) h
 have ha:=y9t (fun k:Nat=>(x.sector k).1) (List.range 4) D.cells (fun a ha=>by rw[List.mem_range]at ha;rw[h.len];omega)
 rw[← hp,← e3]at ha
 refine⟨E,by unfold Dev.install;rw[hm];exact e1,e2,fun k hk=>by rw[ha k,if_pos (List.mem_range.mpr hk)],fun a h4=>by rw[ha a,if_neg (fun hm=>by rw[List.mem_range]at hm;omega)]⟩
theorem w2a (n:Int)(hn:n≤64):∀ (l:List x8) (i:Int) (R:Rg) (D:Dev) (b:Nat),R.Ok→CleanP D R.g.secs b→0≤i→i+l.length≤n→(∀ s∈l,s.length≤200)→R.next+l.length≤4294967295 →
 ∀ a:Nat,((a:Int)<4∨4+2*R.g.w≤(a:Int))→(z6q n l i R D).2.2.cells[a]?=D.cells[a]?
 |[],i,R,D,b,hR,h,_,_,_,_,a,ha=>rfl
 |x :: r,i,R,D,b,hR,h,h0,hi,hl,hx,a,ha=>by
  rw[List.length_cons]at hi hx
  have hp:=y5e hR (i:=i) (n:=n) (b:=x) h0 (by omega) hn (hl x (by simp))
  obtain⟨E,e1,e2,e3⟩:=z8m hR h hp
  have hw:=z6b R.vol R.g (pcR R i n x)
  obtain⟨s0,s1⟩:=y0i hR.g (Pc.of_may hp).1.1
  obtain⟨o1,o2,o3,o4,o5,o6,o7⟩:=hR
  have ok:(nxR R (pcR R i n x)).Ok:=by
   refine⟨o1,o2,o3,⟨o4.1,?_⟩,⟨o5.1,?_⟩,?_,hw⟩
   ·show R.frm≤R.next+1;omega
   ·show R.start≤R.next+1;omega
   ·show R.next+1≤_;omega
  have ih:=w2a n hn r (i+1) (nxR R (pcR R i n x)) E (b+2) ok e2 (by omega) (by omega) (fun s hs=>hl s (by simp[hs])) (by show R.next+1+_≤_;omega) a ha
  show (match (q3d R D (pcR R i n x)).1 != 0 with
   |true=>q3d R D (pcR R i n x)
   |false=>z6q n r (i+1) (q3d R D (pcR R i n x)).2.1 (q3d R D (pcR R i n x)).2.2).2.2.cells[a]?=_
  rw[e1]
  refine ih.trans ?_
  rw[e3]
  show ((D.cells.set (q0j R.g 0 ((pcR R i n x).seq.tmod R.g.w)).toNat _).set (q0j R.g 1 ((pcR R i n x).seq.tmod R.g.w)).toNat _)[a]?=_
  rw[y0t,y0u,List.getElem?_set,if_neg (by omega),List.getElem?_set,if_neg (by omega)]
theorem v8q {s0 c0:Int}(h1000:s0≤1000):∀ (l:List x8) (R:Rg) (D:Dev) (b:Nat) (P:List Pc),LogP R D b s0 c0 P→R.start=s0→∀ k,k≤l.length →
 ∃ P',LogP (apT l R D k).1 (apT l R D k).2 (b+16*k) s0 c0 P'∧(apT l R D k).1.start=s0∧(apT l R D k).1.g=R.g∧(apT l R D k).1.vol=R.vol∧∀ a:Nat,((a:Int)<4∨4+2*R.g.w≤(a:Int))→(apT l R D k).2.cells[a]?=D.cells[a]?
 |l,R,D,b,P,h,hs,0,_=>⟨P,h,hs,rfl,rfl,fun _ _=>rfl⟩
 |l,R,D,b,P,h,hs,k+1,hk=>by
  obtain⟨P',i1,i2,i3,i4,i5⟩:=v8q h1000 l R D b P h hs k (by omega)
  have hx:=k0w (show k<l.length by omega)
  generalize l[k]=s at hx
  unfold apT
  rw[hx]
  generalize apT l R D k=Y at i1 i2 i3 i4 i5
  obtain⟨R1,D1⟩:=Y
  have i1:LogP R1 D1 (b+16*k) s0 c0 P':=i1
  have i2:R1.start=s0:=i2
  have i3:R1.g=R.g:=i3
  have i4:R1.vol=R.vol:=i4
  have i5:∀ a:Nat,((a:Int)<4∨4+2*R.g.w≤(a:Int))→D1.cells[a]?=D.cells[a]?:=i5
  obtain⟨w1,w2,_⟩:=R1.g.of_may i1.ok.g
  have hlen:=i1.len
  have hnx:=i1.next
  show ∃ P'',LogP (match decide ((s.length:Int)≤1500) with|true=>(R1.append D1 s).2|false=>(R1,D1)).1 (match decide ((s.length:Int)≤1500) with|true=>(R1.append D1 s).2|false=>(R1,D1)).2 (b+16*(k+1)) s0 c0 P''∧(match decide ((s.length:Int)≤1500) with|true=>(R1.append D1 s).2|false=>(R1,D1)).1.start=s0∧(match decide ((s.length:Int)≤1500) with|true=>(R1.append D1 s).2|false=>(R1,D1)).1.g=R.g∧(match decide ((s.length:Int)≤1500) with|true=>(R1.append D1 s).2|false=>(R1,D1)).1.vol=R.vol∧∀ a:Nat,((a:Int)<4∨4+2*R.g.w≤(a:Int))→(match decide ((s.length:Int)≤1500) with|true=>(R1.append D1 s).2|false=>(R1,D1)).2.cells[a]?=D.cells[a]?
  have stay:LogP R1 D1 (b+16*(k+1)) s0 c0 P':=⟨i1.ok,i1.clean.mono (by omega),i1.cells,i1.chain,i1.next,i1.sum,i1.zero,i1.len⟩
  cases hd:decide ((s.length:Int)≤1500) with
  |false=>exact⟨P',stay,i2,i3,i4,i5⟩
  |true=>
   have hd:=k0z hd
   have hnum:=w5n s
   have h8:(X8 s).length≤8:=by
    rw[hnum]
    split
    ·omega
    ·omega
   obtain⟨_,a2,_⟩:=x6i i1.ok i1.clean s rfl
   by_cases hw:R1.next+(X8 s).length - R1.start > R1.g.w
   ·have e:=a2 (by omega) (.inl hw)
    show ∃ P'',LogP (R1.append D1 s).2.1 (R1.append D1 s).2.2 (b+16*(k+1)) s0 c0 P''∧(R1.append D1 s).2.1.start=s0∧(R1.append D1 s).2.1.g=R.g∧(R1.append D1 s).2.1.vol=R.vol∧∀ a:Nat,_→(R1.append D1 s).2.2.cells[a]?=_
    rw[e]
    exact⟨P',stay,i2,i3,i4,i5⟩
   ·obtain⟨E,e1,e2⟩:=v8c i1 i2 s (by omega) (by omega) (by omega)
    obtain⟨j1,j2,j3,j4,j5,j6⟩:=x6h (X8 s).length (X8 s) 0 R1
    have out:=w2a (X8 s).length (by omega) (X8 s) 0 R1 D1 (b+16*k) i1.ok i1.clean (Int.le_refl _) (by omega) (z2k s) (by omega)
    have ea:R1.append D1 s=z6q (X8 s).length (X8 s) 0 R1 D1:=by
     unfold Rg.append
     rw[k1s (show ¬ (X8 s).length > 64 by omega)]
     simp only
     rw[k1s hw,k1s (show ¬ R1.next+((X8 s).length:Int) > 4294967295 by omega)]
     rfl
    rw[← ea,e1]at out
    show ∃ P'',LogP (R1.append D1 s).2.1 (R1.append D1 s).2.2 (b+16*(k+1)) s0 c0 P''∧(R1.append D1 s).2.1.start=s0∧(R1.append D1 s).2.1.g=R.g∧(R1.append D1 s).2.1.vol=R.vol∧∀ a:Nat,_→(R1.append D1 s).2.2.cells[a]?=_
    rw[e1]
    refine⟨_,⟨e2.ok,e2.clean.mono (by omega),e2.cells,e2.chain,e2.next,e2.sum,e2.zero,e2.len⟩,j5.trans i2,j1.trans i3,j2.trans i4,fun a ha=>?_⟩
    rw[i3]at out
    exact(out a ha).trans (i5 a ha)
theorem v8r {p:Plan}(h:p.ok=true):(p.g.may=true∧p.g.w≤16)∧p.g.s≤3∧p.g.k≤4∧p.g.m≤3∧(0≤p.area∧p.area≤1)∧(0≤p.start∧p.start≤1000)∧p.txs.length≤9∧(p.snap.length:Int)≤p.g.s*p.g.k*228:=by
 unfold Plan.ok Plan.rest q9t at h
 simp only[Bool.and_eq_true,Bool.not_eq_true',decide_eq_false_iff_not]at h
 obtain⟨⟨h1,h2,_⟩,h3,h4,h5,h6,h7,h8,h9,h10,h11⟩:=h
 obtain⟨g1,g2,g3,g4,g5,g6,g7,g8⟩:=p.g.of_may h1
 have q1:p.g.s*p.g.k≤3*4:=Int.mul_le_mul (by omega) (by omega) (by omega) (by omega)
 have q0:0≤p.g.s*p.g.k:=Int.mul_nonneg (by omega) (by omega)
 rw[Q0 (p.g.s*p.g.k) (by omega) (by omega),Q0 _ (by omega) (by omega)]at h11
 exact⟨⟨h1,by omega⟩,by omega,by omega,by omega,⟨by omega,by omega⟩,⟨by omega,by omega⟩,by omega,by omega⟩
theorem u5x {a b c d:Prop}(h:a∧b∧c)(hd:d):a∧b∧c∧d:=⟨h.1,h.2.1,h.2.2,hd⟩
theorem w5x {p:Plan}(h:p.ok=true):∃ (D1 D2:Dev) (w k m S:Nat) (P:List Pc) (B:x8),
 (q5v 7 p.g).install p.sup=(0,D1)∧D1.snapWrite 7 p.g p.area 0 4 p.snap=(0,D2)∧y9a 7 p.g 2 p.start p.start 5=true∧p.ring.Ok∧(q5v 7 p.g).Ok 4096∧D1.Ok 5000∧D2.Ok 6000∧w≤16∧k≤4∧m≤3∧S≤3 ∧
 LaidP p.sup (apT p.txs p.ring D2 p.txs.length).1.next w k m S P B (apT p.txs p.ring D2 p.txs.length).2∧CleanP (apT p.txs p.ring D2 p.txs.length).2 p.g.secs 7000∧(apT p.txs p.ring D2 p.txs.length).1.start=p.start∧∀ k,k≤p.txs.length→(apT p.txs p.ring D2 k).1.Ok∧(apT p.txs p.ring D2 k).2.Ok 7000:=by
 obtain⟨⟨g1,g2⟩,g3,g4,g5,⟨a0,a1⟩,⟨s0,s1⟩,ht,hsn⟩:=v8r h
 obtain⟨w1,w2,w3,w4,w5,w6,w7,w8⟩:=p.g.of_may g1
 have hw7:Y9 7=true:=by decide
 obtain⟨c0,b0⟩:=u3w 7 hw7 p.g g1
 obtain⟨z1,z2,z3⟩:=q9s g1
 have room:p.g.room=p.g.s*p.g.k*228:=by unfold GeoV.room;rw[g1]
 have ws:Y9 p.start=true:=by unfold Y9;simp only[Bool.and_eq_true,decide_eq_true_eq];omega
 have xm:p.sup.may=true:=by
  unfold Sup.may Sup.words
  show ([(7:Int),3,2,4,p.start,5].all Y9&&decide ((3:Int)≥1)&&decide (p.area≥0)&&decide (p.area<2)&&p.g.may&&decide ((p.snap.length:Int)≥0)&&decide ((p.snap.length:Int)≤p.g.room))=true
  simp only[List.all_cons,List.all_nil,ws,g1,room]
  rw[k1t (show p.area≥0 from a0),k1t (show p.area<2 by omega),k1t (show (p.snap.length:Int)≥0 by omega),k1t hsn]
  decide
 obtain⟨D1,e1,c1,d1,f1⟩:=v2j xm c0 (by omega)
 have G:SnapG 7 p.g p.area 0 4 p.g.k.toNat p.g.m.toNat p.g.s.toNat:=⟨g1,by omega,by omega,by omega,a0,a1,by decide⟩
 have hN:GeoN p.g p.g.w.toNat (p.g.k.toNat+p.g.m.toNat) p.g.s.toNat:=⟨g1,by omega,by omega,by omega⟩
 have hsl:p.snap.length≤228*(p.g.s.toNat*p.g.k.toNat):=by
  have:(p.g.s*p.g.k:Int)=((p.g.s.toNat*p.g.k.toNat:Nat):Int):=by
   rw[Int.natCast_mul,Int.toNat_of_nonneg (by omega),Int.toNat_of_nonneg (by omega)]
  rw[this]at hsn
  omega
 obtain⟨D2,e2,c2,wr,f2⟩:=w1q G hsl c1
 obtain⟨n1,n2,n3,n4,n5,n6⟩:=G.nat
 have hsz:p.g.s.toNat*(p.g.k.toNat+p.g.m.toNat)≤3*7:=Nat.mul_le_mul (by omega) (by omega)
 obtain⟨A,hA⟩:∃ A:Nat,p.area=A:=⟨p.area.toNat,by omega⟩
 have bA:=z1f hN hA
 have bO:=z1f (area:=1 - p.area) hN (A:=1 - A) (by omega)
 have hsec:p.g.secs=4+2*p.g.w.toNat+2*(p.g.s.toNat*(p.g.k.toNat+p.g.m.toNat)):=by
  obtain⟨_,_,_,_,_,_,e7,_⟩:=hN.le
  rw[e7,Nat.mul_assoc]
 have hbl:4+2*p.g.w.toNat≤p.g.base p.area:=by rw[bA];omega
 have hnew:y9a 7 p.g 2 p.start p.start 5=true:=by
  unfold y9a
  rw[g1,k1s (show ¬ p.start<p.start by omega),k1s (show ¬ p.start - p.start > p.g.w by omega)]
  simp only[List.all_cons,List.all_nil,ws]
  decide
 have rok:=v8p hnew
 have L0:LogP p.ring D2 (p.g.secs+4+p.g.s.toNat*(p.g.k.toNat+p.g.m.toNat)) p.start 5 []:=by
  refine⟨rok,c2,⟨fun i q hi=>by simp at hi,fun kk mm k0 k1 hm _=>?_⟩,⟨fun i q hi=>by simp at hi⟩,(Int.add_zero _).symm,rfl,s0,by show (0:Int)≤p.g.w;omega⟩
  have k1:kk<p.g.w:=k1
  have hlt:4≤(q0j p.g mm kk).toNat∧(q0j p.g mm kk).toNat<4+2*p.g.w.toNat:=by
   rcases hm with rfl|rfl
   ·rw[y0t];omega
   ·rw[y0u];omega
  show D2.cells[(q0j p.g mm kk).toNat]?=_
  rw[f2 _ (.inl (by omega)),f1 _ hlt.1]
  exact b0 _ (by omega)
 have hall:∀ k,k≤p.txs.length→(apT p.txs p.ring D2 k).1.Ok∧(apT p.txs p.ring D2 k).2.Ok 7000:=fun k hk=>by
  obtain⟨P,i1,_⟩:=v8q s1 p.txs p.ring D2 _ [] L0 rfl k hk
  exact⟨i1.ok,i1.clean.ok.mono (by omega)⟩
 obtain⟨P,i1,i2,i3,i4,i5⟩:=v8q s1 p.txs p.ring D2 _ [] L0 rfl p.txs.length (k1v _)
 have i3:(apT p.txs p.ring D2 p.txs.length).1.g=p.g:=i3
 have i4:(apT p.txs p.ring D2 p.txs.length).1.vol=7:=i4
 have i5:∀ a:Nat,((a:Int)<4∨4+2*p.g.w≤(a:Int))→(apT p.txs p.ring D2 p.txs.length).2.cells[a]?=D2.cells[a]?:=i5
 refine⟨D1,D2,p.g.w.toNat,p.g.k.toNat,p.g.m.toNat,p.g.s.toNat,P,z6p (228*(p.g.s.toNat*p.g.k.toNat)) p.snap,e1,e2,hnew,rok,c0.ok.mono (by omega),c1.ok.mono (by omega),c2.ok.mono (by omega),by omega,by omega,by omega,by omega,?_⟩
 refine u5x ?_ hall
 generalize apT p.txs p.ring D2 p.txs.length=Y at i1 i2 i3 i4 i5 ⊢
 obtain⟨R,E⟩:=Y
 have i1:LogP R E (p.g.secs+4+p.g.s.toNat*(p.g.k.toNat+p.g.m.toNat)+16*p.txs.length) p.start 5 P:=i1
 have i3:R.g=p.g:=i3
 have i4:R.vol=7:=i4
 have hcl:=i1.clean
 have hcc:=i1.cells
 have hll:=i1.len
 rw[i3]at hcl hcc hll
 rw[i4]at hcc
 have hnx:=i1.next
 refine⟨?_,hcl.mono (by omega),i2⟩
 refine⟨xm,G,hN.hw,fun i hi=>?_,hcc,fun i q hq=>⟨(i1.chain.may i q hq).1,(i1.chain.may i q hq).2.1⟩,by omega,hnx,by show R.next≤_;omega,⟨fun s i hs hi=>?_⟩,y0p hsl,fun a h0 h1=>?_⟩
 ·show E.cells[i]?=_
  rw[i5 i (.inl (by omega)),f2 i (.inl (by omega))]
  exact d1 i hi
 ·have hlt:=z8n hs hi
  show E.cells[p.g.base p.area+_]?=_
  rw[i5 _ (.inr (by omega))]
  exact wr.there s i hs hi
 ·have h0:p.g.base (1 - p.area)≤a:=h0
  have h1:a<p.g.base (1 - p.area)+p.g.s.toNat*(p.g.k.toNat+p.g.m.toNat):=h1
  show E.cells[a]?=some (q2w (q0d 7 a))
  have hA1:A=0∨A=1:=by omega
  have hra:4+2*p.g.w.toNat≤a∧a<p.g.secs∧(a<p.g.base p.area∨p.g.base p.area+p.g.s.toNat*(p.g.k.toNat+p.g.m.toNat)≤a):=by
   rw[bO]at h0 h1
   rw[bA,hsec]
   rcases hA1 with rfl|rfl <;> omega
  rw[i5 a (.inr (by omega)),f2 a hra.2.2,f1 a (by omega)]
  exact b0 a hra.2.1
end Go.Proofs.YtkjklhcfgbaceaaGreat.AL
namespace Go.Proofs.YtkjklhcfgbaceaaGreat.AL
open Go Go.Proofs
theorem w5y (R:Rg)(D:Dev):AFm k0q 5 y1w [.ref 2 0] (rgH R D) (Q8 (i64 R.next) (rgH R D)):=by
 refine Z5 5 hT Tryz.func35 rfl rfl Tryz.ntmps35 rfl rfl ?_
 refine z7 hT ?_
 refine u6 (z7 hT ?_)
 refine y6 ?_
 refine x6 ?_
 refine z7 hT ?_
 refine u0 ?_
 exact x7 [0,1,2,3,4] ⟨rfl,rfl⟩ rfl
abbrev Plan.pv (p:Plan):List PV:=[.raw (.int .i64 p.g.w),.raw (.int .i64 p.g.s),.raw (.int .i64 p.g.k),.raw (.int .i64 p.g.m),.raw (.int .i64 p.start),.sl 1 (x9 p.txs),bP p.snap,.raw (.int .i64 p.area)]
abbrev Plan.av (p:Plan):AV:=.agg [i64 p.g.w,i64 p.g.s,i64 p.g.k,i64 p.g.m,i64 p.start,.p (.sl 1 (x9 p.txs)),bA p.snap,i64 p.area]
abbrev q5y (x:Sup):ABlk:=.cells y3k x.cv
abbrev Sup.nul:Sup:=⟨0,0,0,0,0,0,0,0,⟨0,0,0,0⟩⟩
theorem x0u {p:Plan}(h:p.ok=false):AF k0q z1q [p.av] [] (Q8 (.tup [w7u,Sup.nul.av,i64 0]) []):=by
 refine Q7 hT Tryz.func9 rfl rfl Tryz.ntmps9 rfl ?_
 refine w9 ⟨⟨144,[(1,.p (.box p.pv)),(3,.ref 0 0)]⟩,[q5y Sup.nul]⟩ True (z8 hT ?_) (fun _=>?_)
 ·exact⟨Wk.trans (Z3 0 p.pv rfl rfl) (z6 [1] [1,3] rfl),trivial⟩
 unfold Plan.ok at h
 cases hb:q9t 7 p.g with
 |false=>
  refine w9 ⟨⟨144,[(1,.p (.box p.pv)),(3,.ref 0 0),(5,w7u)]⟩,[q5y Sup.nul]⟩ True (z8 hT ?_) (fun _=>?_)
  ·refine Q1 (Q4 (y9f 7 p.g hb) _ rfl rfl) ?_
   exact⟨z6 [0] [1,3,5] rfl,trivial⟩
  refine u6 (z7 hT ?_)
  refine y6 ?_
  refine z7 hT ?_
  refine u0 ?_
  exact x7 [] ⟨rfl,rfl⟩ rfl
 |true=>
  rw[hb]at h
  unfold Plan.rest at h
  simp only[Bool.true_and]at h
  have wB:=y3t 7 p.g hb
  generalize q5v 7 p.g=D0 at wB
  refine w9 ⟨⟨144,[(1,.p (.box p.pv)),(3,.ref 0 0),(5,.ref 1 0)]⟩,q5y Sup.nul :: [q3b D0 2 3,.row Y5 4 (cx D0.cells),.row Y2 2 (wx D0.waits)]⟩ True (z8 hT ?_) (fun _=>?_)
  ·refine Q1 (q1k wB _ rfl) ?_
   exact⟨z6 [0,1,2,3] [1,3,5] rfl,trivial⟩
  have hcl:=Y4 p.txs
  have hbl:(bx p.snap).length=p.snap.length:=by simp[bx]
  rw[← hcl,← hbl]at h
  refine u6 (z7 hT ?_)
  refine u7 (fun c0=>?_) (fun c0=>?_)
  ·refine y6 ?_
   refine z7 hT ?_
   refine u0 ?_
   exact x7 [] ⟨rfl,rfl⟩ rfl
  rw[show decide (p.g.s > 3)=false from c0]at h
  refine u7 (fun c1=>?_) (fun c1=>?_)
  ·refine y6 ?_
   refine z7 hT ?_
   refine u0 ?_
   exact x7 [] ⟨rfl,rfl⟩ rfl
  rw[show decide (p.g.k > 4)=false from c1]at h
  refine u7 (fun c2=>?_) (fun c2=>?_)
  ·refine y6 ?_
   refine z7 hT ?_
   refine u0 ?_
   exact x7 [] ⟨rfl,rfl⟩ rfl
  rw[show decide (p.g.m > 3)=false from c2]at h
  refine u7 (fun c3=>?_) (fun c3=>?_)
  ·refine y6 ?_
   refine z7 hT ?_
   refine u0 ?_
   exact x7 [] ⟨rfl,rfl⟩ rfl
  rw[show decide (p.area<0)=false from c3]at h
  refine u7 (fun c4=>?_) (fun c4=>?_)
  ·refine y6 ?_
   refine z7 hT ?_
   refine u0 ?_
   exact x7 [] ⟨rfl,rfl⟩ rfl
  rw[show decide (p.area > 1)=false from c4]at h
  refine u7 (fun c5=>?_) (fun c5=>?_)
  ·refine y6 ?_
   refine z7 hT ?_
   refine u0 ?_
   exact x7 [] ⟨rfl,rfl⟩ rfl
  rw[show decide (p.start<0)=false from c5]at h
  refine u7 (fun c6=>?_) (fun c6=>?_)
  ·refine y6 ?_
   refine z7 hT ?_
   refine u0 ?_
   exact x7 [] ⟨rfl,rfl⟩ rfl
  rw[show decide (p.start > 1000)=false from c6]at h
  refine u7 (fun c7=>?_) (fun c7=>?_)
  ·refine y6 ?_
   refine z7 hT ?_
   refine u0 ?_
   exact x7 [] ⟨rfl,rfl⟩ rfl
  rw[show decide ((((x9 p.txs).length:Nat):Int) > 9)=false from c7]at h
  refine y6 (u7 (fun c8=>?_) (fun c8=>?_))
  ·refine z7 hT ?_
   refine u0 ?_
   exact x7 [] ⟨rfl,rfl⟩ rfl
  rw[show decide ((((bx p.snap).length:Nat):Int) > IntKind.i64.wrap (IntKind.i64.wrap (p.g.s*p.g.k)*228))=false from c8]at h
  exact absurd h (by decide)
abbrev Plan.supB (p:Plan):Sup:=⟨7,3,2,p.area,4,((bx p.snap).length:Nat),p.start,5,p.g⟩
abbrev Sup.pvs (x:Sup):List PV:=[.raw (.int .i64 x.vol),.raw (.int .i64 x.gen),.raw (.int .i64 x.epoch),.raw (.int .i64 x.area),.raw (.int .i64 x.snap),.raw (.int .i64 x.long),.raw (.int .i64 x.start),.raw (.int .i64 x.chain),.raw (.int .i64 x.g.w),.raw (.int .i64 x.g.s),.raw (.int .i64 x.g.k),.raw (.int .i64 x.g.m)]
theorem y9v {p:Plan}(h:p.ok=true):∃ (w k m S:Nat) (P:List Pc) (B:x8) (D:Dev) (next:Int),
 LaidP p.sup next w k m S P B D∧CleanP D p.g.secs 7000∧(w≤16∧k≤4∧m≤3∧S≤3)∧AF k0q z1q [p.av] [] (Q8 (.tup [.ref 0 0,p.sup.av,i64 next]) (Y0 D)):=by
 obtain⟨D1,D2,w,k,m,S,P,B,e1,e2,hnew,rok,o0,o1,o2,hw,hk,hm,hS,hL,hC,hst,hall⟩:=w5x h
 refine⟨w,k,m,S,P,B,_,_,hL,hC,⟨hw,hk,hm,hS⟩,?_⟩
 obtain⟨⟨g1,g2⟩,g3,g4,g5,⟨a0,a1⟩,⟨s0,s1⟩,ht,hsn⟩:=v8r h
 obtain⟨w1,w2,w3,w4,w5,w6,w7,w8⟩:=p.g.of_may g1
 have hcl:=Y4 p.txs
 have hbl:(bx p.snap).length=p.snap.length:=by simp[bx]
 have hb:q9t 7 p.g=true:=by unfold Plan.ok at h;rw[k1u]at h;exact h.1
 have hs:¬ (((bx p.snap).length:Nat):Int) > IntKind.i64.wrap (IntKind.i64.wrap (p.g.s*p.g.k)*228):=by
  have q1:p.g.s*p.g.k≤3*4:=Int.mul_le_mul (by omega) (by omega) (by omega) (by omega)
  have q0:0≤p.g.s*p.g.k:=Int.mul_nonneg (by omega) (by omega)
  rw[Q0 (p.g.s*p.g.k) (by omega) (by omega),Q0 _ (by omega) (by omega)]
  omega
 have q1:p.g.s*p.g.k≤3*4:=Int.mul_le_mul (by omega) (by omega) (by omega) (by omega)
 have hsl:p.snap.length≤1000000:=by omega
 clear hL hC hst hsn q1
 have hy:p.sup=p.supB:=by unfold Plan.sup;rw[← hbl]
 have wB:=y3t 7 p.g hb
 have wI:=w1z (q5v 7 p.g) p.sup 4096 o0 (by omega)
 rw[e1,hy]at wI
 have wW:=w5f D1 7 p.g p.area 0 4 p.snap g4 g5 hsl 5000 o1 (by omega)
 rw[e2]at wW
 have wN:=v7u D2 7 p.g 2 p.start p.start 5 hnew
 have hz:apT p.txs p.ring D2 0=(p.ring,D2):=rfl
 have hsu:∀ k,apT p.txs p.ring D2 (k+1)=match p.txs[k]? with
  |some s=>match decide ((s.length:Int)≤1500) with
   |true=>((apT p.txs p.ring D2 k).1.append (apT p.txs p.ring D2 k).2 s).2
   |false=>apT p.txs p.ring D2 k
  |none=>apT p.txs p.ring D2 k:=fun k=>rfl
 have wN:AFm k0q 1 y6p [.ref 0 0,i64 7,p.g.av,i64 2,i64 p.start,i64 p.start,i64 5] (Y0 D2) (Q8 (.tup [.ref 2 0,i64 0]) (rgH p.ring D2)):=wN
 generalize p.ring=R0 at *
 generalize q5v 7 p.g=D0 at wB wI
 generalize apT p.txs R0 D2=F at *
 clear e1 e2 h hnew rok o0 o1 o2 hw hk hm hS
 refine AF.mono (R:=fun r H'=>∃ z:Rg × Dev,z=F p.txs.length∧r=.tup [.ref 0 0,p.supB.av,i64 z.1.next]∧H'=Y0 z.2) ?_ (by rintro r H' ⟨z,rfl,rfl,rfl⟩;exact⟨by rw[hy],rfl⟩)
 refine Q7 hT Tryz.func9 rfl rfl Tryz.ntmps9 rfl ?_
 refine w9 ⟨⟨144,[(1,.p (.box p.pv)),(3,.ref 0 0)]⟩,[q5y Sup.nul]⟩ True (z8 hT ?_) (fun _=>?_)
 ·exact⟨Wk.trans (Z3 0 p.pv rfl rfl) (z6 [1] [1,3] rfl),trivial⟩
 refine w9 ⟨⟨144,[(1,.p (.box p.pv)),(3,.ref 3 0),(5,.ref 0 0)]⟩,Y0 D0++[q5y Sup.nul]⟩ True (z8 hT ?_) (fun _=>?_)
 ·refine Q1 (q1k wB _ rfl) ?_
  exact⟨z6 [1,2,3,0] [1,3,5] rfl,trivial⟩
 refine w9 ⟨⟨144,[(1,.p (.box p.pv)),(3,.ref 3 0),(5,.ref 0 0)]⟩,Y0 D0++[q5y Sup.nul]⟩ True (z7 hT ?_) (fun _=>?_)
 ·refine u7 (fun c0=>absurd (k0z (show decide (p.g.s > 3)=true from c0)) (by omega)) (fun c0=>?_)
  refine u7 (fun c1=>absurd (k0z (show decide (p.g.k > 4)=true from c1)) (by omega)) (fun c1=>?_)
  refine u7 (fun c2=>absurd (k0z (show decide (p.g.m > 3)=true from c2)) (by omega)) (fun c2=>?_)
  refine u7 (fun c3=>absurd (k0z (show decide (p.area<0)=true from c3)) (by omega)) (fun c3=>?_)
  refine u7 (fun c4=>absurd (k0z (show decide (p.area > 1)=true from c4)) (by omega)) (fun c4=>?_)
  refine u7 (fun c5=>absurd (k0z (show decide (p.start<0)=true from c5)) (by omega)) (fun c5=>?_)
  refine u7 (fun c6=>absurd (k0z (show decide (p.start > 1000)=true from c6)) (by omega)) (fun c6=>?_)
  refine u7 (fun c7=>absurd (k0z (show decide ((((x9 p.txs).length:Nat):Int) > 9)=true from c7)) (by omega)) (fun c7=>?_)
  refine y6 (u7 (fun c8=>absurd (k0z (show decide ((((bx p.snap).length:Nat):Int) > IntKind.i64.wrap (IntKind.i64.wrap (p.g.s*p.g.k)*228))=true from c8)) hs) (fun c8=>?_))
  exact x6 ⟨z6 [0,1,2,3] [1,3,5] rfl,trivial⟩
 refine w9 ⟨⟨144,[(1,.p (.box p.pv)),(3,.ref 3 0),(5,.ref 0 0),(6,.p (.box p.supB.pvs))]⟩,Y0 D0++[q5y Sup.nul]⟩ True (z8 hT ?_) (fun _=>?_)
 ·exact⟨Wk.trans (Z3 4 p.supB.pvs rfl rfl) (z6 [0,1,2,3] [1,3,5,6] rfl),trivial⟩
 refine w9 ⟨⟨144,[(1,.p (.box p.pv)),(3,.ref 3 0),(5,.ref 0 0),(6,.p (.box p.supB.pvs)),(7,i64 0)]⟩,Y0 D1++[q5y Sup.nul]⟩ True (z8 hT ?_) (fun _=>?_)
 ·refine Q1 (Z7 [0,1,2] wI rfl rfl rfl) ?_
  exact⟨z6 [0,4,5,3] [1,3,5,6,7] rfl,trivial⟩
 refine w9 ⟨⟨144,[(1,.p (.box p.pv)),(3,.ref 3 0),(5,.ref 0 0),(6,.p (.box p.supB.pvs)),(7,i64 0),(8,i64 0)]⟩,Y0 D2++[q5y Sup.nul]⟩ True (z8 hT ?_) (fun _=>?_)
 ·refine Q1 (Z7 [0,1,2] wW rfl rfl rfl) ?_
  exact⟨z6 [0,4,5,3] [1,3,5,6,7,8] rfl,trivial⟩
 refine w9 ⟨⟨144,[(1,.p (.box p.pv)),(3,.ref 5 0),(5,.ref 0 0),(6,.p (.box p.supB.pvs)),(7,i64 0),(8,i64 0),(9,.ref 2 0),(10,i64 0)]⟩,rgH R0 D2++[q5y Sup.nul]⟩ True (z8 hT ?_) (fun _=>?_)
 ·refine Q1 (Z7 [0,1,2] wN rfl rfl rfl) ?_
  exact⟨z6 [0,4,5,6,7,3] [1,3,5,6,7,8,9,10] rfl,trivial⟩
 refine w9 ⟨⟨144,[(1,.p (.box p.pv)),(3,.ref 5 0),(5,.ref 0 0),(6,.p (.box p.supB.pvs)),(9,.ref 2 0)]⟩,rgH R0 D2++[q5y Sup.nul]⟩ True (z7 hT ?_) (fun _=>?_)
 ·refine y6 ?_
  exact x6 ⟨z6 [0,1,2,3,4,5] [1,3,5,6,9] rfl,trivial⟩
 refine Q3 (fun st=>∃ (R:Rg) (D:Dev),(R,D)=F p.txs.length∧st=⟨⟨144,[(3,.ref 5 0),(5,.ref 0 0),(6,.p (.box p.supB.pvs)),(9,.ref 2 0)]⟩,rgH R D++[q5y Sup.nul]⟩) (z7 hT ?_) ?_
 ·refine y8 ?_
  refine Q2 (fun n st=>∃ (k:Nat) (j:Int) (R:Rg) (D:Dev),n+k=p.txs.length∧j=k∧(R,D)=F k∧st=⟨⟨144,[(1,.p (.box p.pv)),(3,.ref 5 0),(5,.ref 0 0),(6,.p (.box p.supB.pvs)),(9,.ref 2 0),(11,i64 j)]⟩,rgH R D++[q5y Sup.nul]⟩) p.txs.length ⟨⟨144,_⟩,_⟩ (z6 [0,1,2,3,4,5] [1,3,5,6,9,11] rfl) ⟨0,0,R0,D2,rfl,rfl,hz.symm,rfl⟩ ?_
  rintro n st ⟨k,j,R,D,hnk,hj,hF,rfl⟩
  refine u6 (z7 hT ?_)
  refine y6 (u7 (fun h=>?_) (fun h=>?_))
  ·have h:=k0z (show decide (j<(((x9 p.txs).length:Nat):Int))=true from h)
   have hk:k<p.txs.length:=by omega
   have hx:=k0w hk
   generalize p.txs[k]=s at hx
   have hxp:(x9 p.txs)[j.toNat]?=some [bP s]:=by rw[hj,k0u];exact Y3 hx
   have hsk:=hsu k
   rw[hx]at hsk
   have hsk:F (k+1)=match decide ((s.length:Int)≤1500) with
    |true=>((F k).1.append (F k).2 s).2
    |false=>F k:=hsk
   have hok:=hall k (by omega)
   rw[← hF]at hsk hok
   have hbs:(bx s).length=s.length:=by simp[bx]
   refine x6 ?_
   refine Q3 (fun st=>∃ (R:Rg) (D:Dev),(R,D)=F (k+1)∧st=⟨⟨144,[(1,.p (.box p.pv)),(3,.ref 5 0),(5,.ref 0 0),(6,.p (.box p.supB.pvs)),(9,.ref 2 0),(11,i64 j)]⟩,rgH R D++[q5y Sup.nul]⟩) (y8 (z7 hT ?_)) ?_
   ·refine⟨by omega,Z1 hxp ?_⟩
    refine y6 (u7 (fun h2=>?_) (fun h2=>?_))
    ·have h2:=k0z (show decide ((((bx s).length:Nat):Int)≤1500)=true from h2)
     rw[k1t (show (s.length:Int)≤1500 by omega)]at hsk
     have wA:=w0s R D s 7000 hok.1 hok.2 (by omega) (by omega)
     have hsk:F (k+1)=(R.append D s).2:=hsk
     generalize R.append D s=Y at wA hsk
     obtain⟨e,R2,E2⟩:=Y
     refine z8 hT ?_
     refine⟨by omega,Z1 hxp ?_⟩
     refine Q1 (Z7 [0,1,2,3,4] wA rfl rfl rfl) ?_
     exact⟨_,z6 [0,1,2,6,7,5] [1,3,5,6,9,11] rfl,R2,E2,hsk.symm,rfl⟩
    ·have h2:=k0y (show decide ((((bx s).length:Nat):Int)≤1500)=false from h2)
     rw[k1s (show ¬ (s.length:Int)≤1500 by omega)]at hsk
     exact x6 ⟨_,z6 [0,1,2,3,4,5] [1,3,5,6,9,11] rfl,R,D,hsk.symm,rfl⟩
   ·rintro _ ⟨R2,E2,hF2,rfl⟩
    refine z8 hT ?_
    exact⟨n - 1,by omega,_,z6 [0,1,2,3,4,5] [1,3,5,6,9,11] rfl,k+1,IntKind.i64.wrap (j+1),R2,E2,by omega,by rw[Q0 _ (by omega) (by omega)];omega,hF2,rfl⟩
  ·have h:=k0y (show decide (j<(((x9 p.txs).length:Nat):Int))=false from h)
   rw[show k=p.txs.length by omega]at hF
   refine Q6 ?_
   exact⟨_,z6 [0,1,2,3,4,5] [3,5,6,9] rfl,R,D,hF,rfl⟩
 rintro _ ⟨R,D,hF,rfl⟩
 refine u6 (Q9 [5] [] hT u5 (by rfl) ?_)
 refine⟨_,Z7 [0,1,2,3,4] (w5y R D) rfl rfl rfl,?_⟩
 refine u0 ?_
 exact x7 [0,3,4] ⟨(R,D),hF,rfl,rfl⟩ rfl
end Go.Proofs.YtkjklhcfgbaceaaGreat.AL
namespace Go.Proofs.YtkjklhcfgbaceaaGreat.AL
open Go Go.Proofs Go.Proofs.YtkjklhcfgbaceaaGreat.AL.Crc
abbrev p0:Plan:=⟨⟨8,1,2,1⟩,0,[[1],[2]],[],0⟩
theorem v2k {D E:Dev}{a:Nat}(ha:a<D.cells.length)(hE:E.cells=D.cells.modify a fun c=>{ c with lost:=true })(b:Nat):u9 E b=if b=a then [] else u9 D b:=by
 unfold u9
 rw[hE,List.getElem?_modify]
 have hs:=k0w ha
 generalize D.cells[a]=c at hs
 by_cases e:b=a
 ·subst e
  rw[if_pos rfl,hs]
  simp
 ·rw[if_neg e]
  have e2:¬ a=b:=fun h=>e h.symm
  cases D.cells[b]? with
  |none=>rfl
  |some c=>simp[e2]
theorem u1j:(W0 []).2≠0:=by decide
theorem v2m (a:Int):q3v [a]=[a]:=List.perm_singleton.mp (w5g [a])
theorem x3h {l:List Int}(h:l.length=0):q3v l=[]:=List.eq_nil_of_length_eq_zero (by rw[z6f,h])
theorem x0v:∃ (D E F G H:Dev) (next:Int),AF k0q z1q [p0.av] [] (Q8 (.tup [.ref 0 0,p0.sup.av,i64 next]) (Y0 D)) ∧
 D.Ok 7000∧E.Ok 8000∧F.Ok 8000∧G.Ok 8000∧D.fault (y3s 2)=(0,E)∧E.hurts p0.sup next=(([2],0),F)∧F.step p0.sup next 0=((1,0),G)∧G.hurts p0.sup next=(([],0),H):=by
 obtain⟨w,k,m,S,P,B,D,next,hL,hC,hb,wL⟩:=y9v (p:=p0) (by decide +kernel)
 have e1:w=8:=by have:(8:Int)=w:=hL.hw;omega
 have e2:k=2:=by have:(2:Int)=k:=hL.G.hk;omega
 have e3:m=1:=by have:(1:Int)=m:=hL.G.hm;omega
 have e4:S=1:=by have:(1:Int)=S:=hL.G.hs;omega
 subst e1 e2 e3 e4
 obtain⟨_,_,_,_,_,_,e7,_⟩:=hL.geo.le
 have e7:p0.g.secs=26:=e7
 have hC:CleanP D p0.g.secs 7000:=hC
 obtain⟨E,f1,f2,f3⟩:=u4z hC (k:=2) (by rw[e7];decide)
 have hv:=v2k (by rw[hC.len,e7];decide) f3
 have h256:∀ a,a<26→(u9 D a).length=256:=fun a ha=>hL.len256 (show a<p0.g.secs by rw[e7];exact ha)
 have hpr:∀ a,a<26→(!(u9 D a==u9 E a))=decide (a=2):=fun a ha=>by
  rw[hv a]
  by_cases e:a=2
  ·rw[if_pos e,k1t e]
   have:(u9 D a==[])=false:=beq_eq_false_iff_ne.mpr fun h=>by have:=h256 a ha;rw[h]at this;exact absurd this (by decide)
   rw[this];rfl
  ·rw[if_neg e,k1s e,beq_self_eq_true];rfl
 have hmem:∀ i,i<11→∀ a∈Z8 8 3 i,a<26∧z6r 8 3 a=i:=fun i hi a ha=>by
  have:=q9v hL (show i<1+8+2*1 from hi) ha
  have e7:p0.sup.g.secs=26:=e7
  rw[e7]at this;exact this
 have hbd:∀ i,i<11→bdL (u9 E) (u9 D) (Z8 8 3 i)=if i=0 then [2] else []:=fun i hi=>by
  have e:bdL (u9 E) (u9 D) (Z8 8 3 i)=(Z8 8 3 i).filter fun a=>decide (a=2):=by
   unfold bdL
   exact List.filter_congr fun a ha=>hpr a (hmem i hi a ha).1
  rw[e]
  by_cases h0:i=0
  ·subst h0;decide
  ·rw[if_neg h0,List.filter_eq_nil_iff]
   intro a ha h2
   have h2:=k0z h2
   have:=(hmem i hi a ha).2
   rw[h2]at this
   have:z6r 8 3 2=i:=this
   exact h0 (this.symm.trans (by decide))
 have hB:BornP p0.sup 8 2 1 1 D E 7001:=by
  refine⟨f2,fun a ha=>?_,fun i hi=>?_⟩
  ·rw[hv a]
   by_cases e:a=2
   ·rw[if_pos e];exact .inr u1j
   ·rw[if_neg e];exact .inl rfl
  ·show (bdL (u9 E) (u9 D) (Z8 8 3 i)).length≤_
   rw[hbd i hi]
   unfold y1c
   by_cases h0:i=0
   ·rw[if_pos h0,if_pos h0];decide
   ·rw[if_neg h0];exact Nat.zero_le _
 have hcat:∀ j,j≤11→y3e (u9 E) (u9 D) 8 3 j=if j=0 then [] else [2]:=by
  intro j
  induction j with
  |zero=>intro _;rfl
  |succ j ih=>
   intro hj
   show y3e (u9 E) (u9 D) 8 3 j++bdL (u9 E) (u9 D) (Z8 8 3 j)=_
   rw[ih (by omega),hbd j (by omega),if_neg (show ¬ j+1=0 by omega)]
   by_cases h0:j=0
   ·rw[if_pos h0,if_pos h0];rfl
   ·rw[if_neg h0,if_neg h0];rfl
 obtain⟨F,g1,g2,g3⟩:=y5h hL hB
 have hcE:=hcat 11 (k1v _)
 rw[show y3e (u9 E) (u9 D) 8 (2+1) (1+8+2*1)=[2] from hcE]at g1
 have hcF:∀ a,u9 F a=u9 E a:=fun a=>by unfold u9;rw[g3]
 obtain⟨G,s1,s2,s3,s4,s5⟩:=x3g hL g2 (i:=0) (by decide)
 have hb0:bdL (u9 F) (u9 D) (Z8 8 (2+1) 0)=[2]:=by rw[x6p fun c _=>hcF c];exact hbd 0 (by decide)
 rw[hb0]at s1 s5
 have ht:q7u (u9 F) (u9 D) 8 (2+1) (1+8+2*1)=1:=by
  have:u9 F=u9 E:=funext hcF
  rw[this]
  show (y3e (u9 E) (u9 D) 8 3 11).length=1
  rw[hcE];rfl
 have hG0:(y3e (u9 G) (u9 D) 8 (2+1) (1+8+2*1)).length=0:=by
  have s5:q7u (u9 G) (u9 D) 8 (2+1) (1+8+2*1)+1=q7u (u9 F) (u9 D) 8 (2+1) (1+8+2*1):=s5
  rw[ht]at s5
  show q7u _ _ _ _ _=0
  omega
 obtain⟨H,t1,t2,t3⟩:=y5h hL s2
 rw[x3h (by rw[k1x,hG0])]at t1
 rw[show q3v ([2].map fun a:Nat=>(a:Int))=[2] from v2m 2]at g1
 exact⟨D,E,F,G,H,next,wL,hC.ok,f2.ok.mono (by omega),g2.clean.ok.mono (by omega),s2.clean.ok.mono (by omega),f1,g1,s1,t1⟩
theorem w2b:AF k0q y9x [] [] (Q8 (bl true) []):=by
 obtain⟨D,E,F,G,H,next,wL,oD,oE,oF,oG,f1,h1,s1,h2⟩:=x0v
 have wf:=y7q D (y3s 2) 7000 oD (by omega)
 rw[f1]at wf
 have wH:=z2m E p0.sup next (by decide) (by decide) 8000 oE (by omega)
 rw[h1]at wH
 have wS:=y9k F p0.sup next 0 (by decide) (by decide) 8000 oF (by omega)
 rw[s1]at wS
 have wG:=z2m G p0.sup next (by decide) (by decide) 8000 oG (by omega)
 rw[h2]at wG
 have wI:=w5j [2] [2] (by decide)
 rw[show decide (([2]:List Int)=[2])=true from rfl]at wI
 clear f1 h1 s1 h2 oD oE oF oG
 have wH:AFm k0q 1 q5h [.ref 0 0,p0.sup.av,i64 next] (Y0 E) (Q8 (.tup [.p (.sl 1 (Y7 [2])),i64 0]) (Y0 F)):=wH
 have wS:AFm k0q 1 z1r [.ref 0 0,p0.sup.av,i64 next,i64 0] (Y0 F) (Q8 (.tup [i64 1,i64 0]) (Y0 G)):=wS
 have wG:AFm k0q 1 q5h [.ref 0 0,p0.sup.av,i64 next] (Y0 G) (Q8 (.tup [.p (.sl 1 (Y7 [])),i64 0]) (Y0 H)):=wG
 refine Q7 hT Tryz.func8 rfl rfl Tryz.ntmps8 rfl ?_
 refine z7 hT ?_
 refine w9 ⟨⟨72,[(1,.ref 0 0),(2,.p (.box p0.sup.pvs)),(3,i64 next)]⟩,Y0 D⟩ True (X5 (fun k=>Nat.beq 1 k||(Nat.beq 2 k||Nat.beq 3 k)) hT ?_) (fun _=>?_)
 ·refine⟨⟨rfl,rfl⟩,?_⟩
  refine⟨⟨rfl,rfl⟩,?_⟩
  refine⟨⟨rfl,rfl⟩,?_⟩
  refine Q1 (y2n wL ⟨.inl rfl,.inl rfl,.inl rfl,.inl rfl,.inl rfl,.inl rfl,.inr ⟨rfl,1,rfl⟩,.inl rfl,trivial⟩) ?_
  exact⟨Wk.trans (Z3 3 p0.sup.pvs rfl rfl) (z6 [0,1,2] [1,2,3] rfl),trivial⟩
 refine w9 ⟨⟨72,[(1,.ref 0 0),(2,.p (.box p0.sup.pvs)),(3,i64 next)]⟩,Y0 D⟩ True (z7 hT ?_) (fun _=>?_)
 ·refine y6 ?_
  exact x6 ⟨z6 [0,1,2] [1,2,3] rfl,trivial⟩
 refine w9 ⟨⟨72,[(1,.ref 0 0),(2,.p (.box p0.sup.pvs)),(3,i64 next)]⟩,Y0 E⟩ True (z8 hT ?_) (fun _=>?_)
 ·refine Q1 (Z7 [0,1,2] wf rfl rfl rfl) ?_
  exact⟨z6 [0,1,2] [1,2,3] rfl,trivial⟩
 refine w9 ⟨⟨72,[(1,.ref 0 0),(2,.p (.box p0.sup.pvs)),(3,i64 next),(4,.p (.sl 1 (Y7 [2]))),(5,i64 0)]⟩,Y0 F⟩ True (z8 hT ?_) (fun _=>?_)
 ·refine Q1 (Z7 [0,1,2] wH rfl rfl rfl) ?_
  exact⟨z6 [0,3,4] [1,2,3,4,5] rfl,trivial⟩
 refine w9 ⟨⟨72,[(1,.ref 0 0),(2,.p (.box p0.sup.pvs)),(3,i64 next),(4,.p (.sl 1 (Y7 [2]))),(5,i64 0),(6,i64 1),(7,i64 0)]⟩,Y0 G⟩ True (z8 hT ?_) (fun _=>?_)
 ·refine Q1 (Z7 [0,1,2] wS rfl rfl rfl) ?_
  exact⟨z6 [0,3,4] [1,2,3,4,5,6,7] rfl,trivial⟩
 refine w9 ⟨⟨72,[(4,.p (.sl 1 (Y7 [2]))),(5,i64 0),(6,i64 1),(7,i64 0),(8,.p (.sl 1 (Y7 []))),(9,i64 0)]⟩,[]⟩ True (z8 hT ?_) (fun _=>?_)
 ·refine Q1 (Z7 [0,1,2] wG rfl rfl rfl) ?_
  exact⟨z6 [] [4,5,6,7,8,9] rfl,trivial⟩
 refine w9 ⟨⟨72,[(5,i64 0),(6,i64 1),(7,i64 0),(8,.p (.sl 1 (Y7 []))),(9,i64 0),(10,bl true)]⟩,[]⟩ True (X5 (fun k=>Nat.beq 1 k) hT ?_) (fun _=>?_)
 ·refine⟨⟨rfl,rfl⟩,?_⟩
  refine Q1 (Q4 wI _ rfl rfl) ?_
  exact⟨z6 [] [5,6,7,8,9,10] rfl,trivial⟩
 refine z7 hT ?_
 refine u0 ?_
 exact x7 [] ⟨rfl,rfl⟩ rfl
theorem v8s {g:GeoV}{w n s:Nat}(hN:GeoN g w n s){a:Int}(h:(J4 g a).2.2=0):0≤a∧a<(g.secs:Int)∧(J4 g a).1=(z6r w n a.toNat:Int):=by
 obtain⟨o1,o2⟩:=hN.own
 unfold J4 at h ⊢
 split at h
 ·exact absurd h (by decide)
 ·rename_i hc
  have hc2:=hc
  rw[Bool.or_eq_false_iff,decide_eq_false_iff_not,decide_eq_false_iff_not]at hc2
  refine⟨by omega,by omega,?_⟩
  show g.own.getD a.toNat 0=_
  exact o2 a.toNat (by omega)
theorem y3y {g:GeoV}{l:List Flt}{n:Nat}(h:q4i g l n){i:Int}(hb:0≤g.bears i):∀ k,k≤n→q1e g l k i≤g.bears i
 |0,_=>hb
 |k+1,hk=>by
  have ih:=y3y h hb k (by omega)
  have e:q1e g l (k+1) i=q1e g l k i+(match l[k]? with|some f=>if (J4 g f.at_).1=i then 1 else 0|none=>0):=rfl
  cases hx:l[k]? with
  |none=>
   rw[hx]at e
   have e:q1e g l (k+1) i=q1e g l k i+0:=e
   omega
  |some f=>
   have ho:=(h k f (by omega) hx).bears
   rw[hx]at e
   have e:q1e g l (k+1) i=q1e g l k i+(if (J4 g f.at_).1=i then 1 else 0):=e
   by_cases hi:(J4 g f.at_).1=i
   ·rw[hi]at ho;exact ho
   ·rw[if_neg hi]at e;omega
variable {x:Sup} {next:Int} {w k m S:Nat} {P:List Pc} {B:x8} {D:Dev}
theorem w8e (h:LaidP x next w k m S P B D){b:Nat}(hC:CleanP D x.g.secs b){l:List Flt}(hW:q4i x.g l l.length):∀ n,n≤l.length →
 CleanP (D.spoil l n) x.g.secs (b+n)∧y9s D (D.spoil l n) x.g.secs ∧
 (∀ a:Nat,(∀ j f,j<n→l[j]?=some f→f.at_≠(a:Int))→(D.spoil l n).cells[a]?=D.cells[a]?) ∧
 (∀ i,i<1+w+2*S→((bdL (u9 (D.spoil l n)) (u9 D) (Z8 w (k+m) i)).length:Int)≤q1e x.g l n i) ∧
 q7u (u9 (D.spoil l n)) (u9 D) w (k+m) (1+w+2*S)≤n
 |0,_=>⟨hC,fun a _=>.inl rfl,fun _ _=>rfl,fun i _=>by
  show ((bdL (u9 D) (u9 D) (Z8 w (k+m) i)).length:Int)≤0
  rw[x6q fun c _=>rfl];exact Int.le_refl _,by
  show q7u (u9 D) (u9 D) w (k+m) (1+w+2*S)≤0
  rw[y9u _ fun i _=>by rw[x6q fun c _=>rfl];rfl];exact k1v _⟩
 |n+1,hn=>by
  obtain⟨i1,i2,i3,i4,i5⟩:=w8e h hC hW n (by omega)
  have hx:=k0w (show n<l.length by omega)
  generalize l[n]=f at hx
  obtain⟨⟨k1,k3⟩,⟨o0,o1⟩,hth,hon,_⟩:=hW n f (by omega) hx
  obtain⟨a0,a1,hgr⟩:=v8s h.geo hth
  obtain⟨e1,e2,e3,e4,e5,e6,e7,e8⟩:=h.geo.le
  have hsp:D.spoil l (n+1)=((D.spoil l n).fault f).2:=by
   show (match l[n]? with
    |some f=>match decide (f.kind<4) with
     |true=>((D.spoil l n).fault f).2
     |false=>D.spoil l n
    |none=>D.spoil l n)=_
   rw[hx]
   show (match decide (f.kind<4) with
    |true=>((D.spoil l n).fault f).2
    |false=>D.spoil l n)=_
   rw[k1t (show f.kind<4 by omega)]
  rw[hsp]
  generalize D.spoil l n=E at i1 i2 i3 i4 i5
  obtain⟨F,q1,q2,q3⟩:=u3x i1 a0 a1 k1 k3 o0 (by omega)
  rw[q1]
  obtain⟨c,hc⟩:∃ c:Nat,f.at_=c:=⟨f.at_.toNat,by omega⟩
  have hct:f.at_.toNat=c:=by omega
  rw[hct]at q3 hgr
  have hcs:c<x.g.secs:=by omega
  obtain⟨s,s1,s2,s3⟩:=h.fin hcs
  have hEc:E.cells[c]?=some (q2w s):=by
   rw[i3 c fun j y hj hy=>by rw[← hc];exact hon j y hj hy];exact s1
  have hFc:F.cells[c]?=some (z6s f (q2w s)):=by rw[q3,List.getElem?_modify,hEc];simp
  have hFo:∀ a,a≠c→F.cells[a]?=E.cells[a]?:=fun a ha=>by
   rw[q3,List.getElem?_modify]
   have:¬ c=a:=fun h=>ha h.symm
   cases E.cells[a]? with
   |none=>rfl
   |some y=>simp[this]
  have hvo:∀ a,a≠c→u9 F a=u9 E a:=fun a ha=>by unfold u9;rw[hFo a ha]
  have hb1:∀ i,i<1+w+2*S→(bdL (u9 F) (u9 D) (Z8 w (k+m) i)).length≤(bdL (u9 E) (u9 D) (Z8 w (k+m) i)).length+(if i=z6r w (k+m) c then 1 else 0):=fun i hi=>by
   have hb:=u2c (v:=u9 E) (v':=u9 F) (sh:=u9 D) (a:=c) (v8a (w:=w) (n:=k+m) (i:=i)) fun a _ ha=>hvo a ha
   by_cases hm:c∈Z8 w (k+m) i
   ·rw[if_pos hm]at hb
    rw[if_pos (q9v h hi hm).2.symm];exact hb
   ·rw[if_neg hm]at hb;omega
  refine⟨q2,fun a ha=>?_,fun a ha=>?_,fun i hi=>?_,?_⟩
  ·show u9 F a=u9 D a∨(W0 (u9 F a)).2≠0
   by_cases e:a=c
   ·subst e
    rw[y3w F a hFc,q0v s1]
    exact v8k s2 s3 k1 k3 o0 o1
   ·rw[hvo a e];exact i2 a ha
  ·show F.cells[a]?=_
   have e:a≠c:=fun e=>ha n f (by omega) hx (by rw[hc,e])
   rw[hFo a e]
   exact i3 a fun j y hj hy=>ha j y (by omega) hy
  ·show ((bdL (u9 F) (u9 D) (Z8 w (k+m) i)).length:Int)≤q1e x.g l n i+(match l[n]? with|some f=>if (J4 x.g f.at_).1=i then 1 else 0|none=>0)
   rw[hx]
   show _≤_+(if (J4 x.g f.at_).1=(i:Int) then (1:Int) else 0)
   have h1:=hb1 i hi
   have h2:=i4 i hi
   by_cases e:i=z6r w (k+m) c
   ·rw[if_pos e]at h1
    rw[if_pos (show (J4 x.g f.at_).1=(i:Int) by rw[hgr,e])]
    omega
   ·rw[if_neg e]at h1
    rw[if_neg (show ¬ (J4 x.g f.at_).1=(i:Int) by rw[hgr];omega)]
    omega
  ·show q7u (u9 F) (u9 D) w (k+m) (1+w+2*S)≤n+1
   have:=v8n (v:=u9 E) (v':=u9 F) (sh:=u9 D) (w:=w) (n:=k+m) (i0:=z6r w (k+m) c) (1+w+2*S) hb1
   split at this <;> omega
theorem w5z (h:LaidP x next w k m S P B D){b:Nat}(hC:CleanP D x.g.secs b){l:List Flt}(hW:q4i x.g l l.length):BornP x w k m S D (D.spoil l l.length) (b+l.length)∧q7u (u9 (D.spoil l l.length)) (u9 D) w (k+m) (1+w+2*S)≤l.length:=by
 obtain⟨i1,i2,_,i4,i5⟩:=w8e h hC hW l.length (k1v _)
 refine⟨⟨i1,i2,fun i hi=>?_⟩,i5⟩
 have hb:=v2f h.geo h.G.hm hi
 have h1:=i4 i hi
 have h2:=y3y hW (i:=(i:Int)) (by rw[hb];omega) l.length (k1v _)
 rw[hb]at h2
 omega
end Go.Proofs.YtkjklhcfgbaceaaGreat.AL
namespace Go.Proofs.YtkjklhcfgbaceaaGreat.AL
open Go Go.Proofs Go.Proofs.YtkjklhcfgbaceaaGreat.AL.Crc
variable {x:Sup} {next:Int} {w k m S:Nat} {P:List Pc} {B:x8} {D:Dev}
theorem LaidP.of (h:LaidP x next w k m S P B D){E:Dev}(he:E.cells=D.cells):LaidP x next w k m S P B E:=
 ⟨h.xm,h.G,h.hw,by rw[he];exact h.sup,by rw[he];exact h.log,h.pc,h.fit,h.nx,h.most,⟨fun s i hs hi=>by rw[he];exact h.snap.there s i hs hi⟩,h.hB,by rw[he];exact h.other⟩
theorem w6a {D:Dev}{N b:Nat}(h:CleanP D N b):∀ k,k≤N→CleanP (D.secR k).2 N b∧∀ a,a<k→(D.secR k).1[a]?=some (u9 D a)
 |0,_=>⟨h,fun a ha=>absurd ha (Nat.not_lt_zero _)⟩
 |k+1,hk=>by
  obtain⟨h1,h2⟩:=w6a h k (by omega)
  have hl:=z4z D k
  have hc:=z2p D k
  show CleanP ((D.secR k).2.read k).2 N b∧∀ a,a<k+1→((D.secR k).1++[((D.secR k).2.read k).1.1])[a]?=_
  generalize D.secR k=Y at h1 h2 hl hc
  obtain⟨T,E⟩:=Y
  have hc:E.cells=D.cells:=hc
  have hl:T.length=k:=hl
  obtain⟨r1,r2,r3⟩:=u1z h1 (show k<N by omega)
  refine⟨by show CleanP (E.read k).2 N b;rw[r2];exact r3,fun a ha=>?_⟩
  by_cases e:a<k
  ·rw[k0s (by omega)];exact h2 a e
  ·have e:a=k:=by omega
   subst e
   rw[k1q (by omega),hl,Nat.sub_self]
   show some (E.read a).1.1=_
   rw[show (E.read a).1.1=u9 E a from r1]
   unfold u9
   rw[hc]
theorem w6b {D:Dev}{N b:Nat}(h:LiveP D N b)(keep:List Bool):CleanP (D.crashed keep) N b∧(D.crashed keep).cells=D.cells:=by
 obtain⟨_,j,_,c1,c2,_⟩:=u3v (N:=N) [] (D:=D) (b:=b) (fun p hp=>absurd hp (by simp)) h keep
 rw[List.take_nil]at c2
 exact⟨c1,c2⟩
def y1d (r G j:Nat):Nat:=(r % G+j) % G
theorem u1k {r G i:Nat}(hi:i<G):∃ j,j<G∧y1d r G j=i:=by
 have hr:=Nat.mod_lt r (show 0<G by omega)
 refine⟨(i+G - r % G) % G,Nat.mod_lt _ (by omega),?_⟩
 unfold y1d
 rw[Nat.add_mod_mod,show r % G+(i+G - r % G)=i+G by omega,Nat.add_mod_right,Nat.mod_eq_of_lt hi]
theorem v8t {r G j:Nat}(hG:0<G):y1d r G j<G:=Nat.mod_lt _ hG
structure MidP (x:Sup) (w k m S:Nat) (D E:Dev) (b t0 r j:Nat) (many:Int):Prop where
 born:BornP x w k m S D E (b+24*j)
 many:many+q7u (u9 E) (u9 D) w (k+m) (1+w+2*S)=t0
 done:∀ q,q<j→(bdL (u9 E) (u9 D) (Z8 w (k+m) (y1d r (1+w+2*S) q))).length=0
 le:q7u (u9 E) (u9 D) w (k+m) (1+w+2*S)≤t0
theorem v8u (h:LaidP x next w k m S P B D){E:Dev}{b t0 r j:Nat}{many:Int}(hM:MidP x w k m S D E b t0 r j many):∃ (n:Nat) (F:Dev),E.step x next (y1d r (1+w+2*S) j:Nat)=(((n:Int),0),F)∧n≤24∧MidP x w k m S D F b t0 r (j+1) (many+n):=by
 obtain⟨F,f1,f2,f3,f4,f5⟩:=x3g h hM.born (i:=y1d r (1+w+2*S) j) (v8t (by omega))
 have hle:=List.length_filter_le (fun a=>!(u9 D a==u9 E a)) (Z8 w (k+m) (y1d r (1+w+2*S) j))
 have hle:(bdL (u9 E) (u9 D) (Z8 w (k+m) (y1d r (1+w+2*S) j))).length≤(Z8 w (k+m) (y1d r (1+w+2*S) j)).length:=hle
 have hm24:(Z8 w (k+m) (y1d r (1+w+2*S) j)).length≤24:=by
  obtain⟨e1,e2,e3,e4,e5,e6,e7,e8⟩:=h.geo.le
  rw[z6g]
  split
  ·omega
  ·split <;> omega
 have hm:=hM.many
 have hl:=hM.le
 refine⟨_,F,f1,by omega,⟨f2.mono (by omega),by omega,fun q hq=>?_,by omega⟩⟩
 by_cases e:y1d r (1+w+2*S) q=y1d r (1+w+2*S) j
 ·rw[e];exact f3
 ·rw[f4 _ (v8t (by omega)) e]
  refine hM.done q ?_
  by_cases e2:q=j
  ·exact absurd (by rw[e2]) e
  ·omega
theorem u1m {E:Dev}{b t0 r:Nat}{many:Int}(h:LaidP x next w k m S P B D)(hM:MidP x w k m S D E b t0 r (1+w+2*S) many):many=t0∧q7u (u9 E) (u9 D) w (k+m) (1+w+2*S)=0∧∀ a,a<x.g.secs→u9 E a=u9 D a:=by
 have hz:∀ i,i<1+w+2*S→(bdL (u9 E) (u9 D) (Z8 w (k+m) i)).length=0:=fun i hi=>by
  obtain⟨j,hj,rfl⟩:=u1k (r:=r) hi
  exact hM.done j hj
 have ht:=y9u _ hz
 have hm:=hM.many
 refine⟨by omega,ht,fun a ha=>?_⟩
 obtain⟨e1,e2,e3,e4,e5,e6,e7,e8⟩:=h.geo.le
 have hg:=w7z (w:=w) (n:=k+m) (s:=2*S) (a:=a) (by omega) (by omega)
 exact u1h (hz _ hg) ((x2x (s:=2*S) (by omega) hg).mpr ⟨by omega,rfl⟩)
end Go.Proofs.YtkjklhcfgbaceaaGreat.AL
namespace Go.Proofs.YtkjklhcfgbaceaaGreat.AL
open Go Go.Proofs Go.Proofs.YtkjklhcfgbaceaaGreat.AL.Crc
theorem w2c (p:Plan)(l:List Flt)(first:Int):AF k0q z7q [p.av,.p (.sl 9 (flX l)),i64 first] [] (Q8 (bl true) []):=by
 have hfl:=x6d l
 refine Q7 hT Tryz.func5 rfl rfl Tryz.ntmps5 rfl ?_
 refine w9 ⟨⟨145,[(1,.p (.sl 9 (flX l))),(2,i64 first),(3,.p (.box p.pv))]⟩,[]⟩ True (z8 hT ?_) (fun _=>?_)
 ·exact⟨Wk.trans (Z3 0 p.pv rfl rfl) (z6 [] [1,2,3] rfl),trivial⟩
 refine w9 ⟨⟨145,[(1,.p (.sl 9 (flX l))),(2,i64 first),(3,.p (.box p.pv)),(7,bl true)]⟩,[]⟩ True (z8 hT ?_) (fun _=>?_)
 ·refine Q1 (Q4 w2b _ rfl rfl) ?_
  exact⟨z6 [] [1,2,3,7] rfl,trivial⟩
 cases hok:p.ok with
 |false=>
  refine w9 ⟨⟨145,[(7,bl true),(8,w7u)]⟩,[]⟩ True (z8 hT ?_) (fun _=>?_)
  ·refine Q1 (Q4 (x0u hok) _ rfl rfl) ?_
   exact⟨z6 [] [7,8] rfl,trivial⟩
  refine u6 (z7 hT ?_)
  refine y6 ?_
  refine z7 hT ?_
  refine u0 ?_
  exact x7 [] ⟨rfl,rfl⟩ rfl
 |true=>
 obtain⟨w,k,m,S,P,B,D,next,hL,hC,⟨hw,hk4,hm3,hS⟩,wL⟩:=y9v hok
 obtain⟨⟨hg,_⟩,g3,g4,g5,_⟩:=v8r hok
 have wG:=z2n p.g
 have hgr:p.g.groups=((1+w+2*S:Nat):Int):=hL.geo.groups
 rw[hgr]at wG
 obtain⟨_,_,_,_,_,_,_,hsec⟩:=hL.geo.le
 refine w9 ⟨⟨145,[(1,.p (.sl 9 (flX l))),(2,i64 first),(3,.p (.box p.pv)),(7,bl true),(8,.ref 0 0),(9,.p (.box p.sup.pvs)),(10,i64 next)]⟩,Y0 D⟩ True (z8 hT ?_) (fun _=>?_)
 ·refine Q1 wL ?_
  exact⟨Wk.trans (Z3 3 p.sup.pvs rfl rfl) (z6 [0,1,2] [1,2,3,7,8,9,10] rfl),trivial⟩
 refine w9 ⟨⟨145,[(1,.p (.sl 9 (flX l))),(2,i64 first),(3,.p (.box p.pv)),(8,.ref 0 0),(9,.p (.box p.sup.pvs)),(10,i64 next)]⟩,Y0 D⟩ (l.length≤40∧q4i p.g l l.length∧0≤first) (z7 hT ?_) (fun hA=>?_)
 ·refine u7 (fun c1=>?_) (fun c1=>?_)
  ·refine y6 ?_
   refine z7 hT ?_
   refine u0 ?_
   exact x7 [] ⟨rfl,rfl⟩ rfl
  have c1:=k0y (show decide ((((flX l).length:Nat):Int) > 40)=false from c1)
  obtain⟨z,hz,wW⟩:=x6g p.g hg l (by omega)
  refine Q1 (Q4 wW _ rfl rfl) ?_
  refine u7 (fun c2=>?_) (fun c2=>?_)
  ·refine y6 ?_
   refine z7 hT ?_
   refine u0 ?_
   exact x7 [] ⟨rfl,rfl⟩ rfl
  have c2:=k0y (show decide (z > 0)=false from c2)
  refine y6 (u7 (fun c3=>?_) (fun c3=>?_))
  ·refine z7 hT ?_
   refine u0 ?_
   exact x7 [] ⟨rfl,rfl⟩ rfl
  have c3:=k0y (show decide (first<0)=false from c3)
  refine x6 ⟨z6 [0,1,2] [1,2,3,8,9,10] rfl,by omega,?_,by omega⟩
  rcases hz with ⟨_,hz⟩|⟨hz,_⟩
  ·exact hz
  ·omega
 obtain⟨hl,hW,hf0⟩:=hA
 obtain⟨r,hr⟩:∃ r:Nat,first=r:=⟨first.toNat,by omega⟩
 have hC:CleanP D p.g.secs 7000:=hC
 have hsec:p.g.secs≤4096:=hsec
 have ws1:=z7g D 7000 hC.ok (by omega) p.g.secs hC.len (by omega)
 obtain⟨c1,v1⟩:=w6a hC p.g.secs (k1v _)
 have vl:=z4z D p.g.secs
 have hc1:=z2p D p.g.secs
 generalize D.secR p.g.secs=Y1 at ws1 c1 v1 vl hc1
 obtain⟨was,D1⟩:=Y1
 have ws1:AFm k0q 3 q7i [.ref 0 0] (Y0 D) (Q8 (.p (.sl 1 (x9 was))) (Y0 D1)):=ws1
 have c1:CleanP D1 p.g.secs 7000:=c1
 have vl:was.length=p.g.secs:=vl
 have v1:∀ a,a<p.g.secs→was[a]?=some (u9 D1 a):=fun a ha=>by rw[v1 a ha];unfold u9;rw[hc1]
 have hL1:=hL.of hc1
 have wsp:=x6f D1 7000 c1.ok l (by omega) (by omega)
 obtain⟨b2,t2⟩:=w5z hL1 c1 hW
 generalize D1.spoil l l.length=D2 at wsp b2 t2
 have b2:=b2.mono (show 7000+l.length≤7040 by omega)
 have wH:=z2m D2 p.sup next g4 g5 7040 b2.clean.ok (by omega)
 obtain⟨D3,h1,b3,h3⟩:=y5h hL1 b2
 have hcn:(q3v ((y3e (u9 D2) (u9 D1) w (k+m) (1+w+2*S)).map (fun a:Nat=>(a:Int)))).length=q7u (u9 D3) (u9 D1) w (k+m) (1+w+2*S):=by
  rw[z6f,k1x]
  have:u9 D3=u9 D2:=funext fun a=>by unfold u9;rw[h3]
  rw[this];rfl
 have t3:q7u (u9 D3) (u9 D1) w (k+m) (1+w+2*S)≤l.length:=by
  have:u9 D3=u9 D2:=funext fun a=>by unfold u9;rw[h3]
  rw[this];exact t2
 rw[h1]at wH
 generalize q3v ((y3e (u9 D2) (u9 D1) w (k+m) (1+w+2*S)).map (fun a:Nat=>(a:Int)))=bad at wH hcn
 have wH:AFm k0q 1 q5h [.ref 0 0,p.sup.av,i64 next] (Y0 D2) (Q8 (.tup [.p (.sl 1 (Y7 bad)),i64 0]) (Y0 D3)):=wH
 have hM0:MidP p.sup w k m S D1 D3 7040 (q7u (u9 D3) (u9 D1) w (k+m) (1+w+2*S)) r 0 0:=⟨b3,by omega,fun q hq=>absurd hq (Nat.not_lt_zero _),k1v _⟩
 generalize q7u (u9 D3) (u9 D1) w (k+m) (1+w+2*S)=t0 at hcn t3 hM0
 clear h1 b2 t2 b3 c1 h3
 refine w9 ⟨⟨145,[(1,.p (.sl 9 (flX l))),(2,i64 first),(3,.p (.box p.pv)),(8,.ref 0 0),(9,.p (.box p.sup.pvs)),(10,i64 next),(11,.p (.sl 1 (x9 was)))]⟩,Y0 D1⟩ True (z8 hT ?_) (fun _=>?_)
 ·refine Q1 (Z7 [0,1,2] ws1 rfl rfl rfl) ?_
  exact⟨z6 [0,1,2] [1,2,3,8,9,10,11] rfl,trivial⟩
 refine w9 ⟨⟨145,[(1,.p (.sl 9 (flX l))),(2,i64 first),(3,.p (.box p.pv)),(8,.ref 0 0),(9,.p (.box p.sup.pvs)),(10,i64 next),(11,.p (.sl 1 (x9 was)))]⟩,Y0 D2⟩ True (z8 hT ?_) (fun _=>?_)
 ·refine Q1 (Z7 [0,1,2] wsp rfl rfl rfl) ?_
  exact⟨z6 [0,1,2] [1,2,3,8,9,10,11] rfl,trivial⟩
 refine w9 ⟨⟨145,[(1,.p (.sl 9 (flX l))),(2,i64 first),(3,.p (.box p.pv)),(8,.ref 0 0),(9,.p (.box p.sup.pvs)),(10,i64 next),(11,.p (.sl 1 (x9 was))),(12,.p (.sl 1 (Y7 bad))),(13,i64 0)]⟩,Y0 D3⟩ True (z8 hT ?_) (fun _=>?_)
 ·refine Q1 (Z7 [0,1,2] wH rfl rfl rfl) ?_
  exact⟨z6 [0,3,4] [1,2,3,8,9,10,11,12,13] rfl,trivial⟩
 obtain⟨G,hG⟩:∃ G,G=1+w+2*S:=⟨_,rfl⟩
 have hG1:0<G∧G≤1000:=by omega
 rw[← hG]at wG
 refine w9 ⟨⟨145,[(1,.p (.sl 9 (flX l))),(2,i64 first),(8,.ref 0 0),(9,.p (.box p.sup.pvs)),(10,i64 next),(11,.p (.sl 1 (x9 was))),(12,.p (.sl 1 (Y7 bad))),(13,i64 0),(14,i64 G)]⟩,Y0 D3⟩ True (z8 hT ?_) (fun _=>?_)
 ·refine Q1 (Q4 wG _ rfl rfl) ?_
  exact⟨z6 [0,1,2] [1,2,8,9,10,11,12,13,14] rfl,trivial⟩
 refine z7 hT ?_
 refine Q3 (fun st=>∃ (E:Dev) (many:Int),MidP p.sup w k m S D1 E 7040 t0 r G many∧st=⟨⟨145,[(1,.p (.sl 9 (flX l))),(8,.ref 0 0),(9,.p (.box p.sup.pvs)),(10,i64 next),(11,.p (.sl 1 (x9 was))),(12,.p (.sl 1 (Y7 bad))),(13,i64 0),(15,i64 many)]⟩,Y0 E⟩) (z7 hT ?_) ?_
 ·refine y8 ?_
  refine Q2 (fun c st=>∃ (q:Nat) (jq:Int) (E:Dev) (many:Int),c+q=G∧jq=q∧(0≤many∧many≤24*q)∧MidP p.sup w k m S D1 E 7040 t0 r q many∧st=⟨⟨145,[(1,.p (.sl 9 (flX l))),(2,i64 first),(8,.ref 0 0),(9,.p (.box p.sup.pvs)),(10,i64 next),(11,.p (.sl 1 (x9 was))),(12,.p (.sl 1 (Y7 bad))),(13,i64 0),(14,i64 G),(15,i64 many),(16,i64 jq)]⟩,Y0 E⟩) G ⟨⟨145,_⟩,_⟩ (z6 [0,1,2] [1,2,8,9,10,11,12,13,14,15,16] rfl) ⟨0,0,D3,0,by omega,rfl,⟨by omega,by omega⟩,hM0,rfl⟩ ?_
  rintro c st ⟨q,jq,E,many,hcq,hjq,hmany,hM,rfl⟩
  refine u6 (z7 hT ?_)
  refine y6 (u7 (fun h=>?_) (fun h=>?_))
  ·have h:=k0z (show decide (jq<(G:Int))=true from h)
   obtain⟨n,F,s1,s2,hM2⟩:=v8u hL1 hM
   have hrm:=Nat.mod_lt r hG1.1
   have e1:first.tmod G=((r % G:Nat):Int):=by rw[hr];rfl
   have e2:IntKind.i64.wrap (first.tmod G+jq)=((r % G+q:Nat):Int):=by rw[e1,Q0 _ (by omega) (by omega),hjq];omega
   have e3:(IntKind.i64.wrap (first.tmod G+jq)).tmod G=((y1d r (1+w+2*S) q:Nat):Int):=by rw[e2,← hG];rfl
   have wS:=y9k E p.sup next ((y1d r (1+w+2*S) q:Nat):Int) g4 g5 100000 (hM.born.clean.ok.mono (by omega)) (by omega)
   rw[s1,← e3]at wS
   have wS:AFm k0q 1 z1r [.ref 0 0,p.sup.av,i64 next,i64 ((IntKind.i64.wrap (first.tmod G+jq)).tmod G)] (Y0 E) (Q8 (.tup [i64 n,i64 0]) (Y0 F)):=wS
   refine x6 ?_
   refine w9 ⟨⟨145,[(1,.p (.sl 9 (flX l))),(2,i64 first),(8,.ref 0 0),(9,.p (.box p.sup.pvs)),(10,i64 next),(11,.p (.sl 1 (x9 was))),(12,.p (.sl 1 (Y7 bad))),(13,i64 0),(14,i64 G),(15,i64 (many+n)),(16,i64 jq)]⟩,Y0 F⟩ True (y8 ?_) (fun _=>?_)
   ·refine w9 ⟨⟨145,[(1,.p (.sl 9 (flX l))),(2,i64 first),(8,.ref 0 0),(9,.p (.box p.sup.pvs)),(10,i64 next),(11,.p (.sl 1 (x9 was))),(12,.p (.sl 1 (Y7 bad))),(13,i64 0),(14,i64 G),(15,i64 many),(16,i64 jq),(17,i64 n),(18,i64 0)]⟩,Y0 F⟩ True (Q9 [10] [] hT u5 (by rfl) ?_) (fun _=>?_)
    ·refine neI (y:=(G:Int)) (by omega) ?_
     refine neI (y:=(G:Int)) (by omega) ?_
     refine⟨_,_,Z7 [0,1,2] wS rfl rfl rfl,?_⟩
     exact⟨z6 [0,3,4] [1,2,8,9,10,11,12,13,14,15,16,17,18] rfl,trivial⟩
    refine z7 hT ?_
    refine z7 hT ?_
    refine y6 ?_
    refine x6 ⟨?_,trivial⟩
    rw[Q0 _ (by omega) (by omega)]
    exact z6 [0,1,2] [1,2,8,9,10,11,12,13,14,15,16] rfl
   ·refine z8 hT ?_
    exact⟨c - 1,by omega,_,z6 [0,1,2] [1,2,8,9,10,11,12,13,14,15,16] rfl,q+1,IntKind.i64.wrap (jq+1),F,many+n,by omega,by rw[Q0 _ (by omega) (by omega)];omega,⟨by omega,by omega⟩,hM2,rfl⟩
  ·have h:=k0y (show decide (jq<(G:Int))=false from h)
   rw[show q=G by omega]at hM
   refine Q6 ?_
   exact⟨_,z6 [0,1,2] [1,8,9,10,11,12,13,15] rfl,E,many,hM,rfl⟩
 rintro _ ⟨E,many,hM,rfl⟩
 rw[hG]at hM
 obtain⟨m1,m2,m3⟩:=u1m hL1 hM
 obtain⟨c4,h4⟩:=w6b hM.born.clean.live []
 have hb:=hM.born.clean.ok
 have wC:=w3t E [] (fun x hx=>hb.at_ x hx) (by have:=hb.wl;omega)
 have b4:=hM.born.of c4 (fun a _=>.inl (by unfold u9;rw[h4])) hL1.hg
 generalize E.crashed []=D4 at c4 h4 wC b4
 have wC:AFm k0q 1 q9c [.ref 0 0,.p (.sl 1 [])] (Y0 E) (Q8 (.tup []) (Y0 D4)):=wC
 obtain⟨D5,h5,b5,e5⟩:=y5h hL1 b4
 have v4:u9 D4=u9 E:=funext fun a=>by unfold u9;rw[h4]
 have wH2:=z2m D4 p.sup next g4 g5 100000 (b4.clean.ok.mono (by omega)) (by omega)
 rw[h5,v4,x3h (by rw[k1x];exact m2)]at wH2
 have wH2:AFm k0q 1 q5h [.ref 0 0,p.sup.av,i64 next] (Y0 D4) (Q8 (.tup [.p (.sl 1 (Y7 [])),i64 0]) (Y0 D5)):=wH2
 have c5:CleanP D5 p.g.secs (7040+24*(1+w+2*S)):=b5.clean
 have ws2:=z7g D5 100000 (c5.ok.mono (by omega)) (by omega) p.g.secs c5.len (by omega)
 obtain⟨c6,v6⟩:=w6a c5 p.g.secs (k1v _)
 have vl6:=z4z D5 p.g.secs
 generalize D5.secR p.g.secs=Y6 at ws2 c6 v6 vl6
 obtain⟨now,D6⟩:=Y6
 have ws2:AFm k0q 3 q7i [.ref 0 0] (Y0 D5) (Q8 (.p (.sl 1 (x9 now))) (Y0 D6)):=ws2
 have vl6:now.length=p.g.secs:=vl6
 have m3:∀ a,a<p.g.secs→u9 E a=u9 D1 a:=m3
 have v6:∀ a,a<p.g.secs→now[a]?=some (u9 D1 a):=fun a ha=>by
  rw[v6 a ha,← m3 a ha]
  unfold u9
  rw[e5,h4]
 have vle:∀ a,a<p.g.secs→(u9 D1 a).length≤256:=fun a ha=>by
  have:=hL1.len256 (a:=a) ha
  have:(u9 D1 a).length=256:=this
  omega
 have hbl:=V2 bad
 have hwl:=Y4 was
 clear h5 b5 e5 v4 c5 c6 b4 c4 h4 hM hM0 m2 m3 hb
 refine w9 ⟨⟨145,[(1,.p (.sl 9 (flX l))),(8,.ref 0 0),(9,.p (.box p.sup.pvs)),(10,i64 next),(11,.p (.sl 1 (x9 was))),(12,.p (.sl 1 (Y7 bad))),(13,i64 0),(15,i64 many)]⟩,Y0 D4⟩ True (z8 hT ?_) (fun _=>?_)
 ·refine Q1 (v9t (args1:=[.ref 0 0,.p (.sl 1 [])]) (Z7 [0,1,2] wC rfl rfl rfl) ⟨.inl rfl,.inr ⟨rfl,1,rfl⟩,trivial⟩) ?_
  exact⟨z6 [0,3,4] [1,8,9,10,11,12,13,15] rfl,trivial⟩
 refine w9 ⟨⟨145,[(1,.p (.sl 9 (flX l))),(8,.ref 0 0),(11,.p (.sl 1 (x9 was))),(12,.p (.sl 1 (Y7 bad))),(13,i64 0),(15,i64 many),(19,.p (.sl 1 (Y7 []))),(20,i64 0)]⟩,Y0 D5⟩ True (z8 hT ?_) (fun _=>?_)
 ·refine Q1 (Z7 [0,1,2] wH2 rfl rfl rfl) ?_
  exact⟨z6 [0,3,4] [1,8,11,12,13,15,19,20] rfl,trivial⟩
 refine w9 ⟨⟨145,[(8,.ref 0 0),(11,.p (.sl 1 (x9 was)))]⟩,Y0 D5⟩ True (z7 hT ?_) (fun _=>?_)
 ·refine u7 (fun d1=>?_) (fun d1=>?_)
  ·have d1:(many != (((Y7 bad).length:Nat):Int))=true:=d1
   rw[bne_iff_ne]at d1
   exact absurd (by omega) d1
  refine y6 (u7 (fun d2=>?_) (fun d2=>?_))
  ·have d2:=k0z (show decide ((((Y7 bad).length:Nat):Int) > (((flX l).length:Nat):Int))=true from d2)
   omega
  exact x6 ⟨z6 [0,1,2] [8,11] rfl,trivial⟩
 refine w9 ⟨⟨145,[(11,.p (.sl 1 (x9 was))),(21,.p (.sl 1 (x9 now)))]⟩,[]⟩ True (z8 hT ?_) (fun _=>?_)
 ·refine Q1 (Z7 [0,1,2] ws2 rfl rfl rfl) ?_
  exact⟨z6 [] [11,21] rfl,trivial⟩
 refine w9 ⟨⟨145,[]⟩,[]⟩ True (z7 hT ?_) (fun _=>?_)
 ·refine y8 ?_
  refine Q2 (fun c st=>∃ (q:Nat) (jq:Int),c+q=p.g.secs∧jq=q∧st=⟨⟨145,[(11,.p (.sl 1 (x9 was))),(21,.p (.sl 1 (x9 now))),(22,i64 jq)]⟩,[]⟩) p.g.secs ⟨⟨145,_⟩,_⟩ (z6 [] [11,21,22] rfl) ⟨0,0,by omega,rfl,rfl⟩ ?_
  rintro c st ⟨q,jq,hcq,hjq,rfl⟩
  refine u6 (z7 hT ?_)
  refine y6 (u7 (fun h=>?_) (fun h=>?_))
  ·have h:=k0z (show decide (jq<(((x9 was).length:Nat):Int))=true from h)
   have hq:q<p.g.secs:=by omega
   have x1:(x9 was)[jq.toNat]?=some [bP (u9 D1 q)]:=by rw[hjq,k0u];exact Y3 (v1 q hq)
   have x2:(x9 now)[jq.toNat]?=some [bP (u9 D1 q)]:=by rw[hjq,k0u];exact Y3 (v6 q hq)
   have wE:=w3x (u9 D1 q) (u9 D1 q) (by have:=vle q hq;omega)
   rw[beq_self_eq_true]at wE
   generalize u9 D1 q=s at x1 x2 wE
   refine x6 ?_
   refine w9 ⟨⟨145,[(11,.p (.sl 1 (x9 was))),(21,.p (.sl 1 (x9 now))),(22,i64 jq)]⟩,[]⟩ True (y8 (u6 (Q9 [] [] hT u5 (by rfl) ?_))) (fun _=>?_)
   ·refine⟨by omega,Z1 x2 ?_⟩
    refine⟨by omega,Z1 x1 ?_⟩
    refine⟨_,Q4 wE _ rfl rfl,?_⟩
    refine z7 hT ?_
    refine y6 ?_
    exact x6 ⟨z6 [] [11,21,22] rfl,trivial⟩
   ·refine z8 hT ?_
    exact⟨c - 1,by omega,_,z6 [] [11,21,22] rfl,q+1,IntKind.i64.wrap (jq+1),by omega,by rw[Q0 _ (by omega) (by omega)];omega,rfl⟩
  ·refine Q6 ?_
   exact⟨z6 [] [] rfl,trivial⟩
 refine z7 hT ?_
 refine u0 ?_
 exact x7 [] ⟨rfl,rfl⟩ rfl
end Go.Proofs.YtkjklhcfgbaceaaGreat.AL
namespace Go.Proofs.YtkjklhcfgbaceaaGreat.AL
open Go Go.RowKit Go.ChangeShapes Go.WideShapes Go.ChangeAt Go.Deep
theorem v8v {P:Program}{f:FuncId}{args:List AV}{r:Value}{W:World}{vals:Array Value}(h:AF P f args [] (Q8 (.p (.raw r)) []))(hn:vals.size=args.length)
 (ha:∀ i u,args[i]?=some u→ARep W (·<W.heap.size) (fun _=>none) u (vals.getD i undef)):Calls P f vals W fun e W'=>e=.returned r∧Below W.heap.size W W':=by
 have hs:SimH W (·<W.heap.size) (fun _=>none) []:=⟨fun b k hb=>by simp at hb,fun b b' B hb=>by obtain⟨k,hk,_⟩:=hb;simp at hk,fun B hB=>hB,fun _ _=>rfl,fun b B hb=>by simp at hb⟩
 refine(h.2 W _ _ vals hn ha hs).mono ?_
 rintro e W' ⟨v,r',H',I',ι',rfl,⟨rfl,rfl⟩,hr,hs',hx⟩
 rw[Y8 hr]
 refine⟨rfl,⟨hx.ext.os,hx.ext.tape,hx.ext.output,hx.ext.size,fun k hk=>hx.ext.frame k hk ?_⟩⟩
 rintro⟨b,hb,_⟩
 obtain⟨k',hk',_⟩:=hb
 simp at hk'
section
variable {H:Type} {enc:TypeId × Value→H} {P:Program} {W:World} {spare:Nat→Bool} {held:Bool}
theorem z7h {n:Nat}(h:n≤maxLen):n≤9223372036854775807:=by
 have:maxLen=9223372036854775807:=by decide
 omega
theorem v2n {t e:TypeId}{v:Value}{d:DataW H}{ps:List MemPlace}{r:Reach}{b0:Nat}{ι:Nat→Option Nat}(ht:P.underlying t=some (.slice e))(hval:Value.okWide P W r b0 t v)(h:DataW.Trod enc P W 0 spare held t v d ps)
 {α:Type} [Inhabited α] (pv:α→List PV) (sz:Nat) (hsz:P.cellsOf e=sz) (h0:0<sz)
 (hel:∀ (n:Nat) (cs:List Value) (x:DataW H × List MemPlace),DataW.trod enc P W 0 spare held n e cs=some x→∃ a:α,(pv a).length=sz∧∀ (i:Nat) (u:PV),(pv a)[i]?=some u→∀ v:Value,cs[i]?=some v→PRep W (·<W.heap.size) u v) :
 ∃ l:List α,ARep W (·<W.heap.size) ι (.p (.sl sz (l.map pv))) v:=by
 classical
 obtain⟨a0,len,cap,rfl⟩:=okWide_slice ht hval
 obtain⟨fuel,hf⟩:=h
 rcases open_slice ht hf with ⟨hcs,_⟩|⟨a,len',cap',m,n,D,Pl,hcs,_,hl,hm,hmm,_,hx⟩
 ·simp[Value.cells]at hcs
  obtain⟨rfl,rfl,rfl⟩:=hcs
  exact⟨[],.p (PRep.sl sz [] none 0 (fun _ _=>undef) (by simp) (by simp) (.inl rfl) (fun j e i u h=>by simp at h))⟩
 ·simp[Value.cells]at hcs
  obtain⟨rfl,rfl,rfl⟩:=hcs
  have hlm:len≤m:=by rw[hmm];split <;> omega
  have hone:∀ i,∃ x:α,i<len→(pv x).length=sz∧(∀ k,k<sz→∃ v,W.cell? ((a.add (i*sz)).add k)=some v)∧∀ (k:Nat) (u:PV) (v:Value),(pv x)[k]?=some u→W.cell? ((a.add (i*sz)).add k)=some v→PRep W (·<W.heap.size) u v:=by
   intro i
   by_cases hi:i<len
   ·obtain⟨cs',h1,h2⟩:=hx i (by omega)
    rw[hsz]at h1
    obtain⟨x,h3,h4⟩:=hel n cs' _ h2
    obtain⟨_,hlen,hc⟩:=World.cells?_some h1
    refine⟨x,fun _=>⟨h3,fun k hk=>?_,fun k u v hu hv=>?_⟩⟩
    ·exact⟨cs'[k]'(by omega),by rw[hc k hk,k0w]⟩
    ·have hk:k<sz:=by rw[← h3];exact(k0t.1 hu).1
     exact h4 k u hu v (by rw[← hc k hk];exact hv)
   ·exact⟨default,fun h=>absurd h hi⟩
  let g:Nat→α:=fun i=>(hone i).choose
  have hg:∀ i,i<len→(pv (g i)).length=sz∧(∀ k,k<sz→∃ v,W.cell? ((a.add (i*sz)).add k)=some v)∧∀ (k:Nat) (u:PV) (v:Value),(pv (g i))[k]?=some u→W.cell? ((a.add (i*sz)).add k)=some v→PRep W (·<W.heap.size) u v:=fun i hi=>(hone i).choose_spec hi
  clear_value g
  have hlen:(((List.range len).map g).map pv).length=len:=by simp
  have hget:∀ (j:Nat) (e:List PV),(((List.range len).map g).map pv)[j]?=some e→j<len∧e=pv (g j):=by
   intro j e hj
   have hjl:j<len:=by rw[← hlen];exact(k0t.1 hj).1
   simp[hjl]at hj
   exact⟨hjl,hj.symm⟩
  refine⟨(List.range len).map g,.p ?_⟩
  have:=PRep.sl (w:=W) (I:=(·<W.heap.size)) sz (((List.range len).map g).map pv) (some a) cap (fun j i=>(W.cell? ((a.add (j*sz)).add i)).getD undef) (by omega) (by have:=z7h hm;omega) ?_ ?_
  ·rw[hlen]at this;exact this
  ··rcases Nat.eq_zero_or_pos len with hz|hz
    ·subst hz;exact .inl rfl
    ·obtain⟨v,hv⟩:=(hg 0 hz).2.1 0 h0
     obtain⟨ab,ao,asp⟩:=a
     have hspot:asp=none:=by simpa [Addr.add] using World.cell?_spot hv
     subst hspot
     refine .inr ⟨ab,ao,rfl,?_,fun j e hj=>?_⟩
     ·unfold World.cell? at hv
      split at hv
      ·rename_i hb
       have:=(Array.getElem?_eq_some_iff.1 hb).1
       simpa [Addr.add] using this
      ·simp at hv
     ·obtain⟨hjl,rfl⟩:=hget j e hj
      refine⟨(hg j hjl).1,fun i hi=>?_⟩
      obtain⟨v,hv⟩:=(hg j hjl).2.1 i hi
      have e1:(Addr.add ⟨ab,ao,none⟩ (j*sz)).add i=⟨ab,ao+j*sz+i,none⟩:=by rw[add_plain,add_plain]
      rw[e1]at hv
      rw[hv]
      show some v=some ((W.cell? _).getD undef)
      rw[e1,hv];rfl
  ·intro j e i u hj hu
   obtain⟨hjl,rfl⟩:=hget j e hj
   have hi:i<sz:=by rw[← (hg j hjl).1];exact(k0t.1 hu).1
   obtain⟨v,hv⟩:=(hg j hjl).2.1 i hi
   rw[hv]
   exact(hg j hjl).2.2 i u v hu hv
theorem z8q {t e:TypeId}{fuel:Nat}{vs:List Value}{y:DataW H × List MemPlace}(ht:P.underlying t=some (.slice e))(hf:DataW.trod enc P W 0 spare held fuel t vs=some y)
 {α:Type} [Inhabited α] (pv:α→List PV) (sz:Nat) (hsz:P.cellsOf e=sz) (h0:0<sz)
 (hel:∀ (n:Nat) (cs:List Value) (x:DataW H × List MemPlace),DataW.trod enc P W 0 spare held n e cs=some x→∃ a:α,(pv a).length=sz∧∀ (i:Nat) (u:PV),(pv a)[i]?=some u→∀ v:Value,cs[i]?=some v→PRep W (·<W.heap.size) u v) :
 ∃ (l:List α) (v:Value),vs=[v]∧PRep W (·<W.heap.size) (.sl sz (l.map pv)) v:=by
 classical
 rcases open_slice ht hf with ⟨hcs,_⟩|⟨a,len,cap,m,n,D,Pl,hcs,_,hl,hm,hmm,_,hx⟩
 ·exact⟨[],_,hcs,(PRep.sl sz [] none 0 (fun _ _=>undef) (by simp) (by simp) (.inl rfl) (fun j e i u h=>by simp at h))⟩
 ·have hlm:len≤m:=by rw[hmm];split <;> omega
  have hone:∀ i,∃ x:α,i<len→(pv x).length=sz∧(∀ k,k<sz→∃ v,W.cell? ((a.add (i*sz)).add k)=some v)∧∀ (k:Nat) (u:PV) (v:Value),(pv x)[k]?=some u→W.cell? ((a.add (i*sz)).add k)=some v→PRep W (·<W.heap.size) u v:=by
   intro i
   by_cases hi:i<len
   ·obtain⟨cs',h1,h2⟩:=hx i (by omega)
    rw[hsz]at h1
    obtain⟨x,h3,h4⟩:=hel n cs' _ h2
    obtain⟨_,hlen,hc⟩:=World.cells?_some h1
    refine⟨x,fun _=>⟨h3,fun k hk=>?_,fun k u v hu hv=>?_⟩⟩
    ·exact⟨cs'[k]'(by omega),by rw[hc k hk,k0w]⟩
    ·have hk:k<sz:=by rw[← h3];exact(k0t.1 hu).1
     exact h4 k u hu v (by rw[← hc k hk];exact hv)
   ·exact⟨default,fun h=>absurd h hi⟩
  let g:Nat→α:=fun i=>(hone i).choose
  have hg:∀ i,i<len→(pv (g i)).length=sz∧(∀ k,k<sz→∃ v,W.cell? ((a.add (i*sz)).add k)=some v)∧∀ (k:Nat) (u:PV) (v:Value),(pv (g i))[k]?=some u→W.cell? ((a.add (i*sz)).add k)=some v→PRep W (·<W.heap.size) u v:=fun i hi=>(hone i).choose_spec hi
  clear_value g
  have hlen:(((List.range len).map g).map pv).length=len:=by simp
  have hget:∀ (j:Nat) (e:List PV),(((List.range len).map g).map pv)[j]?=some e→j<len∧e=pv (g j):=by
   intro j e hj
   have hjl:j<len:=by rw[← hlen];exact(k0t.1 hj).1
   simp[hjl]at hj
   exact⟨hjl,hj.symm⟩
  refine⟨(List.range len).map g,_,hcs,?_⟩
  have:=PRep.sl (w:=W) (I:=(·<W.heap.size)) sz (((List.range len).map g).map pv) (some a) cap (fun j i=>(W.cell? ((a.add (j*sz)).add i)).getD undef) (by omega) (by have:=z7h hm;omega) ?_ ?_
  ·rw[hlen]at this;exact this
  ··rcases Nat.eq_zero_or_pos len with hz|hz
    ·subst hz;exact .inl rfl
    ·obtain⟨v,hv⟩:=(hg 0 hz).2.1 0 h0
     obtain⟨ab,ao,asp⟩:=a
     have hspot:asp=none:=by simpa [Addr.add] using World.cell?_spot hv
     subst hspot
     refine .inr ⟨ab,ao,rfl,?_,fun j e hj=>?_⟩
     ·unfold World.cell? at hv
      split at hv
      ·rename_i hb
       have:=(Array.getElem?_eq_some_iff.1 hb).1
       simpa [Addr.add] using this
      ·simp at hv
     ·obtain⟨hjl,rfl⟩:=hget j e hj
      refine⟨(hg j hjl).1,fun i hi=>?_⟩
      obtain⟨v,hv⟩:=(hg j hjl).2.1 i hi
      have e1:(Addr.add ⟨ab,ao,none⟩ (j*sz)).add i=⟨ab,ao+j*sz+i,none⟩:=by rw[add_plain,add_plain]
      rw[e1]at hv
      rw[hv]
      show some v=some ((W.cell? _).getD undef)
      rw[e1,hv];rfl
  ·intro j e i u hj hu
   obtain⟨hjl,rfl⟩:=hget j e hj
   have hi:i<sz:=by rw[← (hg j hjl).1];exact(k0t.1 hu).1
   obtain⟨v,hv⟩:=(hg j hjl).2.1 i hi
   rw[hv]
   exact(hg j hjl).2.2 i u v hu hv
end
end Go.Proofs.YtkjklhcfgbaceaaGreat.AL
namespace Go.Proofs.YtkjklhcfgbaceaaGreat.AL
open Go Go.RowKit Go.ChangeShapes Go.WideShapes Go.ChangeAt Go.Deep Go.Proofs
theorem q6r {W:World}{I:Nat→Prop}(k:IntKind)(n:Int):PRep W I (.raw (.int k n)) (.int k n):=.raw _ rfl
theorem z2r {W:World}{I:Nat→Prop}{ι:Nat→Option Nat}(n:Int):ARep W I ι (i64 n) (.int .i64 n):=.p (.raw _ rfl)
section
variable {H:Type} {enc:TypeId × Value→H} {W:World} {spare:Nat→Bool} {held:Bool}
theorem w2d {n:Int}(h:(Lit.int .u8 n).wf=true):∃ b:UInt8,n=(b.toNat:Int):=by
 have h2:0≤n∧n<256:=by
  simp[Lit.wf]at h
  have h3:IntKind.u8.min=0:=rfl
  have h4:IntKind.u8.max=255:=rfl
  omega
 refine⟨UInt8.ofNat n.toNat,?_⟩
 rw[UInt8.toNat_ofNat']
 omega
theorem c3:Tryz.prog.cellsOf 3=1:=by kernel_rfl
theorem c5:Tryz.prog.cellsOf 5=1:=by kernel_rfl
theorem c23:Tryz.prog.cellsOf 23=4:=by kernel_rfl
theorem c24:Tryz.prog.cellsOf 24=1:=by kernel_rfl
theorem c4:Tryz.prog.cellsOf 4=1:=by kernel_rfl
theorem c25:Tryz.prog.cellsOf 25=1:=by kernel_rfl
theorem c27:Tryz.prog.cellsOf 27=8:=by kernel_rfl
theorem c40:Tryz.prog.cellsOf 40=4:=by kernel_rfl
theorem c42:Tryz.prog.cellsOf 42=9:=by kernel_rfl
theorem v2p (n:Nat)(cs:List Value)(x:DataW H × List MemPlace)(h:DataW.trod enc k0q W 0 spare held n 23 cs=some x):∃ g:GeoV,cs=[.int .i64 g.w,.int .i64 g.s,.int .i64 g.k,.int .i64 g.m]:=by
 obtain⟨xs,m,_,rfl,hl,hlen,hf⟩:=DataW.trod_struct Tryz.underlying23 h
 rw[c23]at hl
 have h0:=hf 0 _ rfl
 have h1:=hf 1 _ rfl
 have h2:=hf 2 _ rfl
 have h3:=hf 3 _ rfl
 match xs,hlen with
 |[y0,y1,y2,y3],_=>
  match cs,hl with
  |[v0,v1,v2,v3],_=>
   simp[c3]at h0 h1 h2 h3
   obtain⟨a0,e0,_⟩:=DataW.trod_int Tryz.underlying3 h0
   obtain⟨a1,e1,_⟩:=DataW.trod_int Tryz.underlying3 h1
   obtain⟨a2,e2,_⟩:=DataW.trod_int Tryz.underlying3 h2
   obtain⟨a3,e3,_⟩:=DataW.trod_int Tryz.underlying3 h3
   simp at e0 e1 e2 e3
   exact⟨⟨a0,a1,a2,a3⟩,by rw[e0,e1,e2,e3]⟩
theorem w8f (n:Nat)(cs:List Value)(x:DataW H × List MemPlace)(hx:DataW.trod enc k0q W 0 spare held n 5 cs=some x):∃ b:UInt8,([u8 b]:List PV).length=1∧∀ (i:Nat) (u:PV),([u8 b]:List PV)[i]?=some u→∀ v:Value,cs[i]?=some v→PRep W (·<W.heap.size) u v:=by
 obtain⟨a,e,_,w⟩:=DataW.trod_int Tryz.underlying5 hx
 obtain⟨b,rfl⟩:=w2d w
 refine⟨b,rfl,fun i u hu v hv=>?_⟩
 rw[e]at hv
 match i,hu,hv with
 |0,hu,hv=>simp at hu hv;subst hu;subst hv;exact q6r _ _
 |i+1,hu,hv=>simp at hu
theorem u1n (n:Nat)(cs:List Value)(x:DataW H × List MemPlace)(hx:DataW.trod enc k0q W 0 spare held n 25 cs=some x):∃ b:x8,([bP b]:List PV).length=1∧∀ (i:Nat) (u:PV),([bP b]:List PV)[i]?=some u→∀ v:Value,cs[i]?=some v→PRep W (·<W.heap.size) u v:=by
 obtain⟨l,v,hv,hp⟩:=z8q Tryz.underlying25 hx (fun b:UInt8=>[u8 b]) 1 c5 (by decide) w8f
 refine⟨l,rfl,fun i u hu w hw=>?_⟩
 rw[hv]at hw
 match i,hu,hw with
 |0,hu,hw=>simp at hu hw;subst hu;subst hw;exact hp
 |i+1,hu,hw=>simp at hu
instance:Inhabited Flt:=⟨⟨0,0,0,0,0,0,0,0,0⟩⟩
def Flt.vals (f:Flt):List Value:=[.int .i64 f.kind,.int .i64 f.at_,.int .i64 f.off,.int .i64 f.n,.int .i64 f.to,.int .u8 (f.m0.toNat:Int),.int .u8 (f.m1.toNat:Int),.int .u8 (f.m2.toNat:Int),.int .u8 (f.m3.toNat:Int)]
theorem v2q (n:Nat)(cs:List Value)(x:DataW H × List MemPlace)(h:DataW.trod enc k0q W 0 spare held n 42 cs=some x):∃ f:Flt,cs=f.vals:=by
 obtain⟨xs,m,_,rfl,hl,hlen,hf⟩:=DataW.trod_struct Tryz.underlying42 h
 rw[c42]at hl
 have h0:=hf 0 _ rfl
 have h1:=hf 1 _ rfl
 have h2:=hf 2 _ rfl
 have h3:=hf 3 _ rfl
 have h4:=hf 4 _ rfl
 have h5:=hf 5 _ rfl
 match xs,hlen with
 |[y0,y1,y2,y3,y4,y5],_=>
  match cs,hl with
  |[v0,v1,v2,v3,v4,v5,v6,v7,v8],_=>
   simp[c3,c40]at h0 h1 h2 h3 h4 h5
   obtain⟨a0,e0,_⟩:=DataW.trod_int Tryz.underlying3 h0
   obtain⟨a1,e1,_⟩:=DataW.trod_int Tryz.underlying3 h1
   obtain⟨a2,e2,_⟩:=DataW.trod_int Tryz.underlying3 h2
   obtain⟨a3,e3,_⟩:=DataW.trod_int Tryz.underlying3 h3
   obtain⟨a4,e4,_⟩:=DataW.trod_int Tryz.underlying3 h4
   obtain⟨z0,z1,z2,z3,k,_,g0,g1,g2,g3⟩:=trod_array4 Tryz.underlying40 c5 h5
   obtain⟨b0,f0,_,w0⟩:=DataW.trod_int Tryz.underlying5 g0
   obtain⟨b1,f1,_,w1⟩:=DataW.trod_int Tryz.underlying5 g1
   obtain⟨b2,f2,_,w2⟩:=DataW.trod_int Tryz.underlying5 g2
   obtain⟨b3,f3,_,w3⟩:=DataW.trod_int Tryz.underlying5 g3
   obtain⟨m0,rfl⟩:=w2d w0
   obtain⟨m1,rfl⟩:=w2d w1
   obtain⟨m2,rfl⟩:=w2d w2
   obtain⟨m3,rfl⟩:=w2d w3
   simp at e0 e1 e2 e3 e4 f0 f1 f2 f3
   exact⟨⟨a0,a1,a2,a3,a4,m0,m1,m2,m3⟩,by rw[e0,e1,e2,e3,e4,f0,f1,f2,f3];rfl⟩
theorem v8w {v:Value}{d:DataW H}{ps:List MemPlace}{r:Reach}{b0:Nat}{ι:Nat→Option Nat}
 (hval:Value.okWide k0q W r b0 48 v) (h:DataW.Trod enc k0q W 0 spare held 48 v d ps):∃ l:List Flt,ARep W (·<W.heap.size) ι (.p (.sl 9 (flX l))) v:=
 v2n Tryz.underlying48 hval h Flt.pv 9 c42 (by decide) fun n cs x hx=>by
  obtain⟨f,rfl⟩:=v2q n cs x hx
  refine⟨f,rfl,fun i u hu v hv=>?_⟩
  match i,hu,hv with
  |0,hu,hv=>cases hu;cases hv;exact q6r _ _
  |1,hu,hv=>cases hu;cases hv;exact q6r _ _
  |2,hu,hv=>cases hu;cases hv;exact q6r _ _
  |3,hu,hv=>cases hu;cases hv;exact q6r _ _
  |4,hu,hv=>cases hu;cases hv;exact q6r _ _
  |5,hu,hv=>cases hu;cases hv;exact q6r _ _
  |6,hu,hv=>cases hu;cases hv;exact q6r _ _
  |7,hu,hv=>cases hu;cases hv;exact q6r _ _
  |8,hu,hv=>cases hu;cases hv;exact q6r _ _
  |i+9,hu,hv=>cases hu
theorem w6c (n:Nat)(cs:List Value)(x:DataW H × List MemPlace)(h:DataW.trod enc k0q W 0 spare held n 27 cs=some x) :
 ∃ (p:Plan) (v w:Value),cs=[.int .i64 p.g.w,.int .i64 p.g.s,.int .i64 p.g.k,.int .i64 p.g.m,.int .i64 p.start,v,w,.int .i64 p.area]∧PRep W (·<W.heap.size) (.sl 1 (x9 p.txs)) v∧PRep W (·<W.heap.size) (bP p.snap) w:=by
 obtain⟨xs,m,_,rfl,hl,hlen,hf⟩:=DataW.trod_struct Tryz.underlying27 h
 rw[c27]at hl
 have h0:=hf 0 _ rfl
 have h1:=hf 1 _ rfl
 have h2:=hf 2 _ rfl
 have h3:=hf 3 _ rfl
 have h4:=hf 4 _ rfl
 match xs,hlen with
 |[y0,y1,y2,y3,y4],_=>
  match cs,hl with
  |[v0,v1,v2,v3,v4,v5,v6,v7],_=>
   simp[c3,c23,c24,c25]at h0 h1 h2 h3 h4
   obtain⟨g,e0⟩:=v2p _ _ _ h0
   obtain⟨a1,e1,_⟩:=DataW.trod_int Tryz.underlying3 h1
   obtain⟨txs,w2,e2,k2⟩:=z8q Tryz.underlying24 h2 (fun b:x8=>[bP b]) 1 c25 (by decide) u1n
   obtain⟨snap,w3,e3,k3⟩:=z8q Tryz.underlying25 h3 (fun b:UInt8=>[u8 b]) 1 c5 (by decide) w8f
   obtain⟨a4,e4,_⟩:=DataW.trod_int Tryz.underlying3 h4
   simp at e0 e1 e2 e3 e4
   obtain⟨q0,q1,q2,q3⟩:=e0
   exact⟨⟨g,a1,txs,snap,a4⟩,w2,w3,by rw[q0,q1,q2,q3,e1,e2,e3,e4],k2,k3⟩
theorem v8x {v:Value}{d:DataW H}{ps:List MemPlace}{r:Reach}{b0:Nat}{ι:Nat→Option Nat}
 (hval:Value.okWide k0q W r b0 27 v) (h:DataW.Trod enc k0q W 0 spare held 27 v d ps):∃ p:Plan,ARep W (·<W.heap.size) ι p.av v:=by
 obtain⟨cs,rfl,hsz⟩:=okWide_struct Tryz.underlying27 hval
 obtain⟨n,hn⟩:=h
 obtain⟨p,v,w,hcs,k2,k3⟩:=w6c n _ _ hn
 have:cs=[Value.int .i64 p.g.w,.int .i64 p.g.s,.int .i64 p.g.k,.int .i64 p.g.m,.int .i64 p.start,v,w,.int .i64 p.area].toArray:=by
  cases cs;simpa [Value.cells] using hcs
 subst this
 refine⟨p,.agg _ _ rfl fun i u hu=>?_⟩
 match i,hu with
 |0,hu=>cases hu;exact z2r _
 |1,hu=>cases hu;exact z2r _
 |2,hu=>cases hu;exact z2r _
 |3,hu=>cases hu;exact z2r _
 |4,hu=>cases hu;exact z2r _
 |5,hu=>cases hu;exact .p k2
 |6,hu=>cases hu;exact .p k3
 |7,hu=>cases hu;exact z2r _
 |i+8,hu=>cases hu
end
end Go.Proofs.YtkjklhcfgbaceaaGreat.AL
namespace Go.Proofs.YtkjklhcfgbaceaaGreat.AL
open Go Go.Proofs Go.Proofs.YtkjklhcfgbaceaaGreat
theorem u5y:(mapsRowed k0q)=true:=by kernel_rfl
theorem u5z:((Tryz.prog.stops==[]))=true:=by kernel_rfl
theorem u6a:((Tryz.prog.stopKnobs==[]))=true:=by kernel_rfl
theorem u5c:((Rows.scrubBeyondRow.plainKeys==Tryz.prog.plainKeys))=true:=by kernel_rfl
theorem u5d:(Tryz.prog.stopsHeard)=true:=by kernel_rfl
theorem u5e:(Tryz.prog.mayEnter)=true:=by kernel_rfl
theorem u5f:((Rows.scrubBeyondRow.lifted==Tryz.prog.liftsFinal))=true:=by kernel_rfl
theorem u5g:((Tryz.prog.make==some Rows.scrubBeyondRow.make))=true:=by kernel_rfl
end Go.Proofs.YtkjklhcfgbaceaaGreat.AL
