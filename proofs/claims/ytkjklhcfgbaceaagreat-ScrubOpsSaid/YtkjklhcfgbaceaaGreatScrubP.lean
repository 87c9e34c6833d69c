/- A part of the proof. -/
import Derived.Test.YtkjklhcfgbaceaaGreatScrubO
open Go.Proofs.Tryz renaming prog→k0q
open Option.some renaming inj→k0x
open List renaming getElem?_eq_getElem→k0w,getD_eq_getElem?_getD→k0v,getElem?_eq_some_iff→k0t,getElem?_append_left→k0s,getElem?_append_right→k1q,getElem?_map→k1z,length_append→k1y,length_map→k1x,getElem_mem→k1w,mem_of_getElem?→k2x,take_add_one→k2t,getElem?_range→k2s,length_range→k3q
open Int renaming toNat_natCast→k0u
open Nat renaming le_refl→k1v,mul_le_mul_right→k2v
open Bool renaming and_eq_true→k1u
set_option maxRecDepth 20000
namespace Go.Proofs.YtkjklhcfgbaceaaGreat.AL
open Go Go.Proofs
/-- The group of a sector. -/
def y9w (w n a:Nat):Nat:=if a<4 then 0 else if a<4+w then a - 3 else if a<4+2*w then a - 3 - w else 1+w+(a - 4 - 2*w) / n
def Z9 (w n i:Nat):List Nat:=if i=0 then List.range 4 else if i≤w then [3+i,3+w+i] else (List.range n).map fun j=>4+2*w+(i - 1 - w)*n+j
theorem y8s {w n i:Nat}:(Z9 w n i).Pairwise (· < ·):=by
 unfold Z9
 split
 ·exact List.pairwise_lt_range
 ·rename_i h
  split
  ·refine List.pairwise_cons.mpr ⟨fun a ha=>?_,List.pairwise_singleton _ _⟩
   rw[List.mem_singleton]at ha
   omega
  ·rw[List.pairwise_map]
   exact List.pairwise_lt_range.imp fun h=>by omega
theorem x1y {w n s i a:Nat}(hn:0<n)(hi:i<1+w+s):a∈Z9 w n i↔a<4+2*w+s*n∧y9w w n a=i:=by
 have hs:∀ t,t<s→t*n+n≤s*n:=fun t ht=>by
  have:=k2v n (show t+1≤s from ht)
  rwa [Nat.succ_mul]at this
 unfold Z9 y9w
 generalize hq:(a - 4 - 2*w) / n=q
 split
 ·rename_i h0
  rw[List.mem_range]
  refine⟨fun h=>⟨by omega,by rw[if_pos h];exact h0.symm⟩,fun⟨_,h⟩=>?_⟩
  by_cases h4:a<4
  ·exact h4
  ·rw[if_neg h4]at h
   split at h
   ·omega
   ·split at h
    ·omega
    ·omega
 ·rename_i h0
  split
  ·rename_i hw
   rw[List.mem_cons,List.mem_singleton]
   constructor
   ·rintro(h|h)
    ·refine⟨by omega,?_⟩
     rw[if_neg (by omega),if_pos (by omega)];omega
    ·refine⟨by omega,?_⟩
     rw[if_neg (by omega),if_neg (by omega),if_pos (by omega)];omega
   ·rintro⟨_,h⟩
    split at h
    ·omega
    ·split at h
     ·omega
     ·split at h
      ·omega
      ·omega
  ·rename_i hw
   rw[List.mem_map]
   have ht:=hs (i - 1 - w) (by omega)
   obtain⟨t,et⟩:∃ t,t=i - 1 - w:=⟨_,rfl⟩
   rw[← et]at ht ⊢
   constructor
   ·rintro⟨j,hj,hja⟩
    rw[List.mem_range]at hj
    refine⟨by omega,?_⟩
    rw[if_neg (by omega),if_neg (by omega),if_neg (by omega)]
    have e:q=t:=by
     rw[← hq]
     refine Nat.div_eq_of_lt_le (by omega) ?_
     rw[Nat.add_mul t 1 n];omega
    omega
   ·rintro⟨hl,h⟩
    split at h
    ·omega
    ·split at h
     ·omega
     ·split at h
      ·omega
      ·have e:=Nat.div_add_mod (a - 4 - 2*w) n
       have hm:=Nat.mod_lt (a - 4 - 2*w) hn
       rw[hq,show q=t by omega,Nat.mul_comm]at e
       exact⟨(a - 4 - 2*w) % n,List.mem_range.mpr hm,by omega⟩
theorem v6t:∀ {l r:List Nat},l.Pairwise (· < ·)→r.Pairwise (· < ·)→(∀ a,a∈l↔a∈r)→l=r
 |[],[],_,_,_=>rfl
 |[],b :: r,_,_,h=>absurd ((h b).mpr (by simp)) (by simp)
 |a :: l,[],_,_,h=>absurd ((h a).mp (by simp)) (by simp)
 |a :: l,b :: r,hl,hr,h=>by
  obtain⟨l1,l2⟩:=List.pairwise_cons.mp hl
  obtain⟨r1,r2⟩:=List.pairwise_cons.mp hr
  have e:a=b:=by
   rcases List.mem_cons.mp ((h a).mp (by simp)) with e|e
   ·exact e
   ·rcases List.mem_cons.mp ((h b).mpr (by simp)) with f|f
    ·exact f.symm
    ·have:=r1 a e;have:=l1 b f;omega
  subst e
  rw[v6t l2 r2 fun x=>?_]
  constructor
  ·intro hx
   rcases List.mem_cons.mp ((h x).mp (List.mem_cons_of_mem _ hx)) with e|e
   ·have:=l1 x hx;omega
   ·exact e
  ·intro hx
   rcases List.mem_cons.mp ((h x).mpr (List.mem_cons_of_mem _ hx)) with e|e
   ·have:=r1 x hx;omega
   ·exact e
theorem v0q {w a n:Nat}(ha:a<4+2*w):(z7y w 2).getD a 0=(y9w w n a:Int):=by
 have h0:∀ a,a<4→(z7y w 0).getD a 0=0:=fun a ha=>by
  rcases (show a=0∨a=1∨a=2∨a=3 by omega) with rfl|rfl|rfl|rfl <;> rfl
 have l0:(z7y w 0).length=4:=rfl
 have l1:=y0b w 1
 have hm:∀ j,j<w→(((List.range w).map fun(i:Nat)=>1+(i:Int))[j]?).getD 0=1+(j:Int):=fun j hj=>by
  rw[k1z,k2s hj];rfl
 unfold y9w
 show ((z7y w 1)++_).getD a 0=_
 rw[k0v]
 by_cases h:a<4+w
 ·rw[k0s (by omega)]
  show (((z7y w 0)++_)[a]?).getD 0=_
  by_cases h4:a<4
  ·rw[k0s (by omega),if_pos h4,← k0v,h0 a h4];rfl
  ·rw[k1q (by omega),l0,hm _ (by omega),if_neg h4,if_pos h];omega
 ·rw[k1q (by omega),l1,hm _ (by omega),if_neg (by omega),if_neg h,if_pos ha];omega
theorem w0c {w n:Nat}(hn:0<n):∀ (s a:Nat),a<4+2*w+s*n→(z7z w n s).getD a 0=(y9w w n a:Int)
 |0,a,ha=>v0q (by omega)
 |s+1,a,ha=>by
  have hl:=z4s w n s
  rw[Nat.add_mul s 1 n,Nat.one_mul]at ha
  show ((z7z w n s)++_).getD a 0=_
  rw[k0v]
  by_cases h:a<4+2*w+s*n
  ·rw[k0s (by omega),← k0v]
   exact w0c hn s a h
  ·rw[k1q (by omega),hl,List.getElem?_replicate,if_pos (by omega)]
   unfold y9w
   rw[if_neg (by omega),if_neg (by omega),if_neg (by omega)]
   have e:(a - 4 - 2*w) / n=s:=by
    refine Nat.div_eq_of_lt_le (by omega) ?_
    rw[Nat.add_mul s 1 n];omega
   rw[e]
   show 1+(w:Int)+s=_
   omega
theorem y3f (l:List Int)(i:Int):∀ k,z4w l i k=((List.range k).filter fun a=>decide (l.getD a 0=i)).map fun a:Nat=>(a:Int)
 |0=>rfl
 |k+1=>by
  rw[List.range_succ,List.filter_append,List.map_append,← y3f l i k]
  show (match decide (l.getD k 0=i) with|true=>z4w l i k++[(k:Int)]|false=>z4w l i k)=_
  cases h:decide (l.getD k 0=i) with
  |true=>
   rw[List.filter_cons_of_pos (by exact h)];rfl
  |false=>
   rw[List.filter_cons_of_neg (by rw[h];exact Bool.false_ne_true)]
   exact(List.append_nil _).symm
structure GeoN (g:GeoV) (w n s:Nat):Prop where
 may:g.may=true
 hw:g.w=w
 hn:g.k+g.m=n
 hs:g.s=s
variable {g:GeoV} {w n s:Nat}
theorem GeoN.le (h:GeoN g w n s):8≤w∧w≤512∧2≤n∧n≤24∧1≤s∧s≤32∧g.secs=4+2*w+2*s*n∧g.secs≤4096:=by
 obtain⟨h1,h2,h3,h4,h5,h6,h7,h8⟩:=V7 (V5 h.may)
 obtain⟨q1,q2,_⟩:=q9p h.may
 have:=h.hw;have:=h.hn;have:=h.hs
 rw[h.hn,h.hs,show 2*(s:Int)*(n:Int)=((2*s*n:Nat):Int) by simp]at q1
 omega
theorem GeoN.groups (h:GeoN g w n s):g.groups=((1+w+2*s:Nat):Int):=by
 unfold GeoV.groups
 rw[h.may,h.hw,h.hs]
 show 1+(w:Int)+2*s=_
 omega
theorem GeoN.sectors (h:GeoN g w n s):g.sectors=(g.secs:Int):=by
 obtain⟨q1,q2,_⟩:=q9p h.may
 unfold GeoV.sectors
 rw[h.may,q1]
theorem GeoN.memb (h:GeoN g w n s)(i:Nat):q0n g i=(Z9 w n i).map fun a:Nat=>(a:Int):=by
 unfold q0n Z9
 by_cases h0:i=0
 ·rw[k1t (show (i:Int)=0 by omega),if_pos h0]
 ·rw[k1s (show ¬ (i:Int)=0 by omega),if_neg h0]
  by_cases hw:i≤w
  ·rw[k1t (show (i:Int)≤g.w by have:=h.hw;omega),if_pos hw,h.hw]
   show [4+((0:Nat):Int)*w+i - 1,4+((1:Nat):Int)*w+i - 1]=[((3+i:Nat):Int),((3+w+i:Nat):Int)]
   rw[show 4+((0:Nat):Int)*w+i - 1=((3+i:Nat):Int) by omega,show 4+((1:Nat):Int)*w+i - 1=((3+w+i:Nat):Int) by omega]
  ·rw[k1s (show ¬ (i:Int)≤g.w by have:=h.hw;omega),if_neg hw,h.hw,h.hn,k0u,List.map_map]
   show List.map _ _=_
   refine List.map_congr_left fun j _=>?_
   show 4+2*(w:Int)+((i:Int) - 1 - w)*n+j=((4+2*w+(i - 1 - w)*n+j:Nat):Int)
   rw[show (i:Int) - 1 - w=((i - 1 - w:Nat):Int) by omega]
   simp only[Int.natCast_add,Int.natCast_mul]
   rfl
theorem GeoN.own (h:GeoN g w n s):g.own.length=g.secs∧∀ a,a<g.secs→g.own.getD a 0=(y9w w n a:Int):=by
 obtain⟨h1,h2,h3,h4,h5,h6,h7,h8⟩:=h.le
 have e:g.own=z7z w n (2*s):=by
  unfold GeoV.own
  rw[h.hw,h.hn,h.hs,k0u,k0u,k0u]
 rw[e,z4s,h7]
 exact⟨rfl,fun a ha=>w0c (by omega) _ a ha⟩
theorem GeoN.pos (h:GeoN g w n s){i:Nat}(hi:i<1+w+2*s):z4w g.own i g.own.length=q0n g i:=by
 obtain⟨o1,o2⟩:=h.own
 obtain⟨h1,h2,h3,h4,h5,h6,h7,h8⟩:=h.le
 rw[y3f,h.memb,o1]
 refine congrArg _ (v6t (List.pairwise_lt_range.filter _) y8s fun a=>?_)
 rw[List.mem_filter,List.mem_range,x1y (s:=2*s) (by omega) hi,← h7]
 constructor
 ·rintro⟨ha,hd⟩
  have:=k0z hd
  rw[o2 a ha]at this
  exact⟨ha,by omega⟩
 ·rintro⟨ha,hd⟩
  exact⟨ha,k1t (by rw[o2 a ha,hd])⟩
theorem z1a {w n i:Nat}:(Z9 w n i).length=if i=0 then 4 else if i≤w then 2 else n:=by
 unfold Z9
 split
 ·rfl
 ·split
  ·rfl
  ·rw[k1x,k3q]
end Go.Proofs.YtkjklhcfgbaceaaGreat.AL
namespace Go.Proofs.YtkjklhcfgbaceaaGreat.AL
open Go Go.Proofs Go.Proofs.YtkjklhcfgbaceaaGreat.AL.Crc
theorem w0d {D:Dev}{N b:Nat}(h:CleanP D N b){ps:List Put9}(hp:∀ p∈ps,x9n N p):∃ E,D.all9 ps=(0,E)∧CleanP E N (b+ps.length)∧E.cells=q2h ps D.cells:=by
 have key:∀ (ps:List Put9) {D:Dev} {b:Nat} (m:Int),(∀ p∈ps,x9n N p)→CleanP D N b→∃ E m',q4g z3b ps D m=(0,(E,m'))∧CleanP E N (b+ps.length)∧E.cells=q2h ps D.cells:=by
  intro ps
  induction ps with
  |nil=>intro D b m _ h;exact⟨D,m,rfl,h,rfl⟩
  |cons p r ih=>
   intro D b m hp h
   obtain⟨h0,h1,h2⟩:=hp p (by simp)
   have hk:((p.at_.toNat:Nat):Int)=p.at_:=by omega
   obtain⟨E,g1,g2,g3⟩:=y8i h (k:=p.at_.toNat) (by omega) h2
   rw[hk]at g1
   obtain⟨F,m',k1,k2,k3⟩:=ih (y3z 0 m) (fun q hq=>hp q (by simp[hq])) g2
   refine⟨F,m',?_,by rw[List.length_cons,show b+(r.length+1)=b+1+r.length by omega];exact k2,by rw[k3,g3];rfl⟩
   rw[q8q]
   have eg:z3b D m p.at_ p.s=(0,(E,y3z 0 m)):=by unfold z3b;rw[g1]
   rw[eg];exact k1
 obtain⟨E,m',h1,h2,h3⟩:=key ps 0 hp h
 exact⟨E,by unfold Dev.all9;rw[h1],h2,h3⟩
def w0e (vol:Int)(g:GeoV)(c0:Int)(P:List Pc):Nat→Int
 |0=>c0
 |i+1=>match P[i]? with|some p=>z6d vol g p|none=>c0
structure Chain (vol:Int) (g:GeoV) (epoch frm s0 c0:Int) (P:List Pc):Prop where
 may:∀ (i:Nat) (p:Pc),P[i]?=some p→p.may=true∧p.seq=s0+i∧p.epoch=epoch∧p.frm=frm∧p.chain=w0e vol g c0 P i
def q2s (g:GeoV)(s0:Int)(i:Nat):Int:=(s0+i).tmod g.w
theorem w6s {g:GeoV}(hg:g.may=true){s0:Int}(h0:0≤s0){i j:Nat}(hij:i<j)(hj:(j:Int)<i+g.w):q2s g s0 i≠q2s g s0 j:=by
 obtain⟨g1,g2,_⟩:=g.of_may hg
 unfold q2s
 rw[Int.tmod_eq_emod_of_nonneg (by omega),Int.tmod_eq_emod_of_nonneg (by omega)]
 intro e
 have h1:=Int.emod_emod_of_dvd (s0+(j:Int) - (s0+(i:Int))) (Int.dvd_refl g.w)
 have h2:(s0+(j:Int) - (s0+(i:Int))) % g.w=0:=by rw[Int.sub_emod,e,Int.sub_self,Int.zero_emod]
 rw[show s0+(j:Int) - (s0+(i:Int))=((j - i:Nat):Int) by omega]at h2
 rw[Int.emod_eq_of_lt (by omega) (by omega)]at h2
 omega
structure CellsP (vol:Int) (g:GeoV) (s0:Int) (P:List Pc) (cs:List Cell):Prop where
 used:∀ (i:Nat) (p:Pc),P[i]?=some p→∀ m:Int,(m=0∨m=1)→cs[(q0j g m (q2s g s0 i)).toNat]?=some (q7q (p.sector vol g m).1)
 free:∀ k m:Int,0≤k→k<g.w→(m=0∨m=1)→(∀ i:Nat,i<P.length→q2s g s0 i≠k)→cs[(q0j g m k).toNat]?=some (q7q (q0d vol (q0j g m k).toNat))
theorem y0i (g:GeoV)(k:Int):q0j g 0 k=4+k:=by unfold q0j;omega
theorem y0j (g:GeoV)(k:Int):q0j g 1 k=4+g.w+k:=by unfold q0j;omega
theorem v9j {g:GeoV}(hg:g.may=true){s0:Int}(h0:0≤s0)(i:Nat):0≤q2s g s0 i∧q2s g s0 i<g.w:=z9y hg (by omega)
theorem w0f {R:Rg}(hg:R.g.may=true){p:Pc}(hp:0≤p.seq){cs:List Cell}(hl:cs.length=R.g.secs){k m:Int}(k0:0≤k)(k1:k<R.g.w)(hm:m=0∨m=1) :
 (q2h (q4w R p) cs)[(q0j R.g m k).toNat]?=if k=p.seq.tmod R.g.w then some (q7q (p.sector R.vol R.g m).1) else cs[(q0j R.g m k).toNat]?:=by
 obtain⟨s0,s1⟩:=z9y hg hp
 obtain⟨_,_,q⟩:=q9p hg
 obtain⟨g1,_⟩:=R.g.of_may hg
 show ((cs.set (q0j R.g 0 (p.seq.tmod R.g.w)).toNat (q7q (p.sector R.vol R.g 0).1)).set (q0j R.g 1 (p.seq.tmod R.g.w)).toNat (q7q (p.sector R.vol R.g 1).1))[(q0j R.g m k).toNat]?=_
 generalize p.seq.tmod R.g.w=j at s0 s1
 rw[y0i,y0j,List.getElem?_set,List.getElem?_set,List.length_set]
 rcases hm with rfl|rfl
 ·rw[y0i,if_neg (by omega)]
  by_cases e:k=j
  ·rw[if_pos (by omega),if_pos (by omega),if_pos e]
  ·rw[if_neg (by omega),if_neg e]
 ·rw[y0j]
  by_cases e:k=j
  ·rw[if_pos (by omega),if_pos (by omega),if_pos e]
  ·rw[if_neg (by omega),if_neg (by omega),if_neg e]
theorem CellsP.snoc {R:Rg}(hg:R.g.may=true){s0:Int}{P:List Pc}{cs:List Cell}(h:CellsP R.vol R.g s0 P cs)(h0:0≤s0)(hl:cs.length=R.g.secs){p:Pc}(hs:p.seq=s0+P.length)(hP:(P.length:Int)<R.g.w):CellsP R.vol R.g s0 (P++[p]) (q2h (q4w R p) cs):=by
 have hk:p.seq.tmod R.g.w=q2s R.g s0 P.length:=by rw[hs];rfl
 refine⟨fun i q hq m hm=>?_,fun k m k0 k1 hm hn=>?_⟩
 ·obtain⟨i0,i1⟩:=v9j hg h0 i
  rw[w0f hg (by omega) hl i0 i1 hm,hk]
  rw[List.getElem?_append]at hq
  by_cases e:i<P.length
  ·rw[if_pos e]at hq
   rw[if_neg (w6s hg h0 e (by omega))]
   exact h.used i q hq m hm
  ·rw[if_neg e]at hq
   have hi:i=P.length:=by
    have:=(k0t.1 hq).1
    rw[List.length_singleton]at this
    omega
   rw[hi,Nat.sub_self]at hq
   have hq:p=q:=k0x hq
   rw[hi,if_pos rfl,hq]
 ·rw[w0f hg (by omega) hl k0 k1 hm,hk]
  rw[if_neg (fun e=>hn P.length (by rw[k1y,List.length_singleton];omega) e.symm)]
  exact h.free k m k0 k1 hm fun i hi=>hn i (by rw[k1y];omega)
theorem x1z (vol:Int)(g:GeoV)(c0:Int)(P r:List Pc){i:Nat}(hi:i≤P.length):w0e vol g c0 (P++r) i=w0e vol g c0 P i:=by
 cases i with
 |zero=>rfl
 |succ i=>
  show (match (P++r)[i]? with|some p=>z6d vol g p|none=>c0)=match P[i]? with|some p=>z6d vol g p|none=>c0
  rw[k0s (by omega)]
theorem w4h (vol:Int)(g:GeoV)(c0:Int)(P:List Pc)(p:Pc):w0e vol g c0 (P++[p]) (P++[p]).length=z6d vol g p:=by
 rw[k1y,List.length_singleton]
 show (match (P++[p])[P.length]? with|some p=>z6d vol g p|none=>c0)=_
 rw[k1q (k1v _),Nat.sub_self];rfl
structure LogP (R:Rg) (D:Dev) (b:Nat) (s0 c0:Int) (P:List Pc):Prop where
 ok:R.Ok
 clean:CleanP D R.g.secs b
 cells:CellsP R.vol R.g s0 P D.cells
 chain:Chain R.vol R.g R.epoch R.frm s0 c0 P
 next:R.next=s0+P.length
 sum:R.chain=w0e R.vol R.g c0 P P.length
 zero:0≤s0
 len:(P.length:Int)≤R.g.w
def nxR (R:Rg)(p:Pc):Rg:={ R with next:=R.next+1,chain:=z6d R.vol R.g p }
theorem z8c {p:Pc}{vol:Int}{g:GeoV}{m:Int}(hp:p.may=true)(hg:g.may=true)(hv:X2 vol=true)(m0:0≤m)(m2:m<2):(p.sector vol g m).1.length=256:=by
 rw[(q8m hp hg hv m0 m2).1]
 have:=y4j hp
 show (J5 _).length=256
 rw[q3p,q6m _ (by show (pcB p).length≤228;omega)]
theorem z8d {R:Rg}(hR:R.Ok){D:Dev}{b:Nat}(h:CleanP D R.g.secs b){p:Pc}(hp:p.may=true):∃ E,q2z R D p=(0,(nxR R p,E))∧CleanP E R.g.secs (b+2)∧E.cells=q2h (q4w R p) D.cells:=by
 obtain⟨s0,s1⟩:=z9y hR.g (p.of_may hp).1.1
 obtain⟨_,_,q⟩:=q9p hR.g
 have l0:=z8c hp hR.g hR.vol (Int.le_refl 0) (by omega)
 have l1:=z8c hp hR.g hR.vol (m:=1) (by omega) (by omega)
 obtain⟨E,h1,h2,h3⟩:=w0d h (ps:=q4w R p) (by
  intro q hq
  unfold q4w at hq
  simp only[List.mem_cons,List.not_mem_nil,or_false]at hq
  rcases hq with rfl|rfl
  ·exact⟨by rw[y0i];show (0:Int)≤4+_;omega,by rw[y0i];show 4+_<_;omega,l0⟩
  ·exact⟨by rw[y0j];show (0:Int)≤4+R.g.w+_;omega,by rw[y0j];show 4+R.g.w+_<_;omega,l1⟩)
 refine⟨E,?_,h2,h3⟩
 unfold q2z
 rw[h1];rfl
theorem LogP.snoc {R:Rg}{D:Dev}{b:Nat}{s0 c0:Int}{P:List Pc}(h:LogP R D b s0 c0 P)(hP:(P.length:Int)<R.g.w){i n:Int}{x:x9}(hp:(pcR R i n x).may=true)(hn:R.next<4294967295) :
 ∃ E,q2z R D (pcR R i n x)=(0,(nxR R (pcR R i n x),E))∧LogP (nxR R (pcR R i n x)) E (b+2) s0 c0 (P++[pcR R i n x]):=by
 obtain⟨E,h1,h2,h3⟩:=z8d h.ok h.clean hp
 refine⟨E,h1,?_⟩
 have hw:=z5w R.vol R.g (pcR R i n x)
 have hq:(pcR R i n x).seq=R.next∧(pcR R i n x).epoch=R.epoch∧(pcR R i n x).frm=R.frm∧(pcR R i n x).chain=R.chain:=⟨rfl,rfl,rfl,rfl⟩
 generalize pcR R i n x=p at hp h1 h3 hw hq
 obtain⟨q1,q2,q3,q4⟩:=hq
 obtain⟨o1,o2,o3,o4,o5,o6,o7⟩:=h.ok
 have c:=CellsP.snoc o1 h.cells h.zero h.clean.len (p:=p) (by rw[q1,h.next]) hP
 refine⟨⟨o1,o2,o3,⟨o4.1,?_⟩,⟨o5.1,?_⟩,?_,hw⟩,h2,by rw[h3];exact c,⟨fun j q hj=>?_⟩,?_,(w4h R.vol R.g c0 P p).symm,h.zero,?_⟩
 ·show R.frm≤R.next+1;omega
 ·show R.start≤R.next+1;omega
 ·show R.next+1≤_;omega
 ·rw[List.getElem?_append]at hj
  by_cases e:j<P.length
  ·rw[if_pos e]at hj
   rw[x1z _ _ _ _ _ (by omega)]
   exact h.chain.may j q hj
  ·rw[if_neg e]at hj
   have hi:j=P.length:=by
    have:=(k0t.1 hj).1
    rw[List.length_singleton]at this
    omega
   rw[hi,Nat.sub_self]at hj
   have hj:p=q:=k0x hj
   rw[x1z _ _ _ _ _ (by omega),hi,← hj]
   exact⟨hp,by rw[q1,h.next],q2,q3,by rw[q4];exact h.sum⟩
 ·show R.next+1=_
  rw[k1y,List.length_singleton,h.next];omega
 ·rw[k1y,List.length_singleton];show ((P.length+1:Nat):Int)≤R.g.w;omega
def mkP (n:Int):List x9→Int→Rg→List Pc
 |[],_,_=>[]
 |b :: r,i,R=>pcR R i n b :: mkP n r (i+1) (nxR R (pcR R i n b))
def y0k (n:Int):List x9→Int→Rg→Rg
 |[],_,R=>R
 |b :: r,i,R=>y0k n r (i+1) (nxR R (pcR R i n b))
theorem x5d (n:Int):∀ (l:List x9) (i:Int) (R:Rg),(y0k n l i R).g=R.g∧(y0k n l i R).vol=R.vol∧(y0k n l i R).epoch=R.epoch∧(y0k n l i R).frm=R.frm∧(y0k n l i R).start=R.start∧(y0k n l i R).next=R.next+l.length
 |[],_,R=>⟨rfl,rfl,rfl,rfl,rfl,by show R.next=R.next+0;omega⟩
 |b :: r,i,R=>by
  obtain⟨h1,h2,h3,h4,h5,h6⟩:=x5d n r (i+1) (nxR R (pcR R i n b))
  refine⟨h1,h2,h3,h4,h5,?_⟩
  show (y0k n r (i+1) (nxR R (pcR R i n b))).next=_
  rw[h6,List.length_cons]
  show R.next+1+_=_
  omega
theorem v6u (n:Int)(hn:n≤64){s0 c0:Int}:∀ (l:List x9) (i:Int) (R:Rg) (D:Dev) (b:Nat) (P:List Pc),LogP R D b s0 c0 P→0≤i→i+l.length≤n→(∀ s∈l,s.length≤200)→((P.length+l.length:Nat):Int)≤R.g.w→R.next+l.length≤4294967295 →
 ∃ E,z6f n l i R D=(0,(y0k n l i R,E))∧LogP (y0k n l i R) E (b+2*l.length) s0 c0 (P++mkP n l i R)
 |[],i,R,D,b,P,h,_,_,_,_,_=>⟨D,rfl,by rw[show mkP n [] i R=[] from rfl,List.append_nil];exact h⟩
 |x :: r,i,R,D,b,P,h,h0,hi,hl,hP,hx=>by
  rw[List.length_cons]at hi hP hx
  have hp:=y4q h.ok (i:=i) (n:=n) (b:=x) h0 (by omega) hn (hl x (by simp))
  obtain⟨E,e1,e2⟩:=h.snoc (by omega) hp (by omega)
  obtain⟨F,f1,f2⟩:=v6u n hn r (i+1) (nxR R (pcR R i n x)) E (b+2) (P++[pcR R i n x]) e2 (by omega) (by omega) (fun s hs=>hl s (by simp[hs])) (by rw[k1y,List.length_singleton];show _≤R.g.w;omega) (by show R.next+1+_≤_;omega)
  refine⟨F,?_,?_⟩
  ·show (match (q2z R D (pcR R i n x)).1 != 0 with
    |true=>q2z R D (pcR R i n x)
    |false=>z6f n r (i+1) (q2z R D (pcR R i n x)).2.1 (q2z R D (pcR R i n x)).2.2)=_
   rw[e1]
   exact f1
  ·rw[List.append_assoc]at f2
   rw[List.length_cons,show b+2*(r.length+1)=b+2+2*r.length by omega]
   exact f2
theorem v6v {R:Rg}{D:Dev}{b:Nat}{s0 c0:Int}{P:List Pc}(h:LogP R D b s0 c0 P)(hs:R.start=s0)(tx:x9)(h64:(X9 tx).length≤64)(hP:((P.length+(X9 tx).length:Nat):Int)≤R.g.w)(hx:R.next+(X9 tx).length≤4294967295) :
 ∃ E,R.append D tx=(0,(y0k (X9 tx).length (X9 tx) 0 R,E))∧LogP (y0k (X9 tx).length (X9 tx) 0 R) E (b+2*(X9 tx).length) s0 c0 (P++mkP (X9 tx).length (X9 tx) 0 R):=by
 obtain⟨E,e1,e2⟩:=v6u (X9 tx).length (by omega) (X9 tx) 0 R D b P h (Int.le_refl _) (by omega) (z2h tx) hP hx
 refine⟨E,?_,e2⟩
 have hn:=h.next
 unfold Rg.append
 rw[k1s (show ¬ (X9 tx).length > 64 by omega)]
 simp only
 rw[k1s (show ¬ R.next+(X9 tx).length - R.start > R.g.w by omega),k1s (show ¬ R.next+((X9 tx).length:Int) > 4294967295 by omega)]
 exact e1
theorem y8t (n:Int)(hn:n≤64):∀ (l:List x9) (i:Int) (R:Rg) (D:Dev) (b:Nat),R.Ok→CleanP D R.g.secs b→0≤i→i+l.length≤n→(∀ s∈l,s.length≤200)→R.next+l.length≤4294967295 →
 ∃ E,z6f n l i R D=(0,(y0k n l i R,E))∧(y0k n l i R).Ok∧CleanP E R.g.secs (b+2*l.length)
 |[],i,R,D,b,hR,h,_,_,_,_=>⟨D,rfl,hR,h⟩
 |x :: r,i,R,D,b,hR,h,h0,hi,hl,hx=>by
  rw[List.length_cons]at hi hx
  have hp:=y4q hR (i:=i) (n:=n) (b:=x) h0 (by omega) hn (hl x (by simp))
  obtain⟨E,e1,e2,_⟩:=z8d hR h hp
  have hw:=z5w R.vol R.g (pcR R i n x)
  obtain⟨o1,o2,o3,o4,o5,o6,o7⟩:=hR
  have ok:(nxR R (pcR R i n x)).Ok:=by
   refine⟨o1,o2,o3,⟨o4.1,?_⟩,⟨o5.1,?_⟩,?_,hw⟩
   ·show R.frm≤R.next+1;omega
   ·show R.start≤R.next+1;omega
   ·show R.next+1≤_;omega
  obtain⟨F,f1,f2,f3⟩:=y8t n hn r (i+1) (nxR R (pcR R i n x)) E (b+2) ok e2 (by omega) (by omega) (fun s hs=>hl s (by simp[hs])) (by show R.next+1+_≤_;omega)
  refine⟨F,?_,f2,?_⟩
  ·show (match (q2z R D (pcR R i n x)).1 != 0 with
    |true=>q2z R D (pcR R i n x)
    |false=>z6f n r (i+1) (q2z R D (pcR R i n x)).2.1 (q2z R D (pcR R i n x)).2.2)=_
   rw[e1]
   exact f1
  ·rw[List.length_cons,show b+2*(r.length+1)=b+2+2*r.length by omega]
   exact f3
theorem x5e {R:Rg}{D:Dev}{b:Nat}(hR:R.Ok)(h:CleanP D R.g.secs b)(tx:x9){n:Nat}(hn:n=(X9 tx).length) :
 (n > 64→R.append D tx=(2,(R,D)))∧(n≤64→R.next+n - R.start > R.g.w∨R.next+n > 4294967295→R.append D tx=(4,(R,D))) ∧
 (n≤64→R.next+n - R.start≤R.g.w→R.next+n≤4294967295→∃ (R':Rg) (E:Dev),R.append D tx=(0,(R',E))∧R'.Ok∧CleanP E R.g.secs (b+2*n)∧R'.g=R.g∧R'.start=R.start∧R'.next=R.next+n):=by
 refine⟨fun h64=>?_,fun h64 hf=>?_,fun h64 hw hx=>?_⟩
 ·unfold Rg.append;rw[← hn,k1t h64]
 ·unfold Rg.append;rw[← hn,k1s (show ¬ n > 64 by omega)]
  simp only
  rw[show (decide (R.next+(n:Int) - R.start > R.g.w)||decide (R.next+(n:Int) > 4294967295))=true by rw[Bool.or_eq_true,decide_eq_true_eq,decide_eq_true_eq];exact hf]
 ·obtain⟨E,e1,e2,e3⟩:=y8t (X9 tx).length (by omega) (X9 tx) 0 R D b hR h (Int.le_refl _) (by omega) (z2h tx) (by omega)
  obtain⟨i1,i2,i3,i4,i5,i6⟩:=x5d (X9 tx).length (X9 tx) 0 R
  refine⟨_,E,?_,e2,by rw[hn];exact e3,i1,i5,by rw[hn];exact i6⟩
  unfold Rg.append
  rw[k1s (show ¬ (X9 tx).length > 64 by omega)]
  simp only
  rw[k1s (show ¬ R.next+(X9 tx).length - R.start > R.g.w by omega),k1s (show ¬ R.next+((X9 tx).length:Int) > 4294967295 by omega)]
  exact e1
theorem y8u:∀ (f:Nat) (b:x9),b.length≤f→(q3y f b).length=if b.length=0 then 1 else (b.length+199) / 200
 |0,b,h=>by
  rw[if_pos (by omega)];rfl
 |f+1,b,h=>by
  unfold q3y
  split
  ·rename_i hd
   have hd:=k0z hd
   rw[List.length_cons,y8u f _ (by rw[List.length_drop];omega),List.length_drop,if_neg (by omega),if_neg (by omega)]
   omega
  ·rename_i hd
   have hd:=k0y hd
   rw[List.length_singleton]
   split
   ·rfl
   ·omega
theorem w4i (b:x9):(X9 b).length=if b.length=0 then 1 else (b.length+199) / 200:=y8u _ b (k1v _)
theorem LiveP.mono {D:Dev}{N b c:Nat}(h:LiveP D N b)(hc:b≤c):LiveP D N c:=⟨h.ok.mono hc,h.dead,h.waits,h.len,h.well⟩
theorem CleanP.mono {D:Dev}{N b c:Nat}(h:CleanP D N b)(hc:b≤c):CleanP D N c:=⟨h.ok.mono hc,h.dead,h.armed,h.waits,h.len,h.well⟩
def w0g (f:Flt)(c:Cell):Cell:=if f.kind=1 then { c with s:=q8s f c.s 4 } else if f.kind=2 then { c with s:=y2w,lost:=false } else { c with lost:=true }
theorem v6w {D:Dev}{N b:Nat}{f:Flt}(h:CleanP D N b)(h0:0≤f.at_)(h1:f.at_<(N:Int))(k1:1≤f.kind)(k3:f.kind≤3)(o0:0≤f.off)(o1:f.off<256) :
 ∃ E,D.fault f=(0,E)∧CleanP E N (b+1)∧E.cells=D.cells.modify f.at_.toNat (w0g f):=by
 have hok:=h.ok.fault f
 have hh:D.has f.at_=true:=by
  have:=x9m h.len (k:=f.at_.toNat) (by omega)
  rwa [show ((f.at_.toNat:Nat):Int)=f.at_ by omega]at this
 have hm:D.may f=0:=by
  unfold Dev.may
  rw[hh]
  simp only
  rw[k1s (show ¬ f.kind<1 by omega),k1s (show ¬ f.kind > 5 by omega),k1s (show ¬ f.off<0 by omega),k1s (show ¬ f.off≥256 by omega),show (f.kind==4)=false from beq_eq_false_iff_ne.mpr (by omega),show (f.kind==5)=false from beq_eq_false_iff_ne.mpr (by omega)]
  simp
 have hs:D.settle f.at_=D:=by
  unfold Dev.settle;rw[h.waits]
  obtain⟨c,w,ar,de,le,op⟩:=D
  have hw:w=[]:=h.waits
  subst hw;rfl
 have e:D.fault f=(0,D.upd f.at_ (w0g f)):=by
  unfold Dev.fault;rw[hm]
  show (0,D.hurt f)=_
  unfold Dev.hurt
  rw[hs]
  have hk:f.kind=1∨f.kind=2∨f.kind=3:=by omega
  rcases hk with k|k|k
  ·rw[if_pos k]
   congr 2
   funext c
   unfold w0g;rw[if_pos k]
  ·rw[if_neg (by omega),if_pos k]
   congr 2
   funext c
   unfold w0g;rw[if_neg (by omega),if_pos k]
  ·rw[if_neg (by omega),if_neg (by omega),if_pos k]
   congr 2
   funext c
   unfold w0g;rw[if_neg (by omega),if_neg (by omega)]
 rw[e]at hok
 refine⟨_,e,⟨hok,h.dead,h.armed,h.waits,(List.length_modify ..).trans h.len,?_⟩,rfl⟩
 intro c hc
 have hc:c∈D.cells.modify f.at_.toNat (w0g f):=hc
 obtain⟨i,hi⟩:=List.getElem?_of_mem hc
 rw[List.getElem?_modify]at hi
 cases hx:D.cells[i]? with
 |none=>rw[hx]at hi;simp at hi
 |some c0=>
  rw[hx]at hi
  have hw:=h.well c0 (k2x hx)
  have hi:some (if f.at_.toNat=i then w0g f c0 else c0)=some c:=hi
  have hi:=k0x hi
  subst hi
  split
  ·unfold w0g
   split
   ·exact hw
   ·split
    ·exact hw
    ·exact hw
  ·exact hw
def u0d (c:Cell):x9:=match c.lost with|true=>[]|false=>c.s
theorem y0m {s:x9}(h:(W9 s).2≠0)(vol:Int)(g:GeoV)(m slot:Int):(q0c s vol g m slot).2=false:=by
 unfold q0c
 rw[show ((W9 s).2 != 0)=true from bne_iff_ne.mpr h];rfl
theorem w0h (D:Dev)(k:Nat){c:Cell}(h:D.cells[k]?=some c):Q2 D k=u0d c:=by
 unfold Q2 u0d;rw[h] <;> rfl
theorem y8v {v:Int}(hv:X2 v=true){k:Nat}(hk:k≤4294967295):q3g (q0d v k)=true∧(q0d v k).length=256:=by
 obtain⟨e1,_,e3⟩:=x1r v hv k hk
 exact⟨by rw[e1];exact q8i _,e3⟩
theorem x5f {p:Pc}{vol:Int}{g:GeoV}{m:Int}(hp:p.may=true)(hg:g.may=true)(hv:X2 vol=true)(m0:0≤m)(m2:m<2):q3g (p.sector vol g m).1=true∧(p.sector vol g m).1.length=256:=
 ⟨by rw[(q8m hp hg hv m0 m2).1];exact q8i _,z8c hp hg hv m0 m2⟩
theorem CellsP.whole {vol:Int}{g:GeoV}{s0:Int}{P:List Pc}{cs:List Cell}(h:CellsP vol g s0 P cs)(hg:g.may=true)(hv:X2 vol=true)(hp:∀ (i:Nat) (p:Pc),P[i]?=some p→p.may=true){k m:Int}(k0:0≤k)(k1:k<g.w)(hm:m=0∨m=1) :
 ∃ s,cs[(q0j g m k).toNat]?=some (q7q s)∧q3g s=true∧s.length=256:=by
 obtain⟨g1,g2,_⟩:=g.of_may hg
 by_cases e:∃ i:Nat,i<P.length∧q2s g s0 i=k
 ·obtain⟨i,hi,rfl⟩:=e
  obtain⟨a,b⟩:=x5f (hp i _ (k0w hi)) hg hv (m:=m) (by omega) (by omega)
  exact⟨_,h.used i _ (k0w hi) m hm,a,b⟩
 ·have hk:(q0j g m k).toNat≤4294967295:=by
   rcases hm with rfl|rfl
   ·rw[y0i];omega
   ·rw[y0j];omega
  obtain⟨a,b⟩:=y8v hv hk
  exact⟨_,h.free k m k0 k1 hm fun i hi he=>e ⟨i,hi,he⟩,a,b⟩
theorem y0n {N:Nat}:∀ (ps:List Put9) {D:Dev} {b:Nat} (m:Int),(∀ p∈ps,x9n N p)→CleanP D N b →
 ∃ E m',q4g z3b ps D m=(0,(E,m'))∧CleanP E N (b+ps.length)∧E.cells=q2h ps D.cells
 |[],D,b,m,_,h=>⟨D,m,rfl,h,rfl⟩
 |p :: r,D,b,m,hp,h=>by
  obtain⟨h0,h1,h2⟩:=hp p (by simp)
  have hk:((p.at_.toNat:Nat):Int)=p.at_:=by omega
  obtain⟨E,g1,g2,g3⟩:=y8i h (k:=p.at_.toNat) (by omega) h2
  rw[hk]at g1
  have eg:z3b D m p.at_ p.s=(0,(E,y3z 0 m)):=by unfold z3b;rw[g1]
  obtain⟨F,m',k1,k2,k3⟩:=y0n r (y3z 0 m) (fun q hq=>hp q (by simp[hq])) g2
  refine⟨F,m',?_,by rw[List.length_cons,show b+(r.length+1)=b+1+r.length by omega];exact k2,by rw[k3,g3];rfl⟩
  rw[q8q,eg];exact k1
theorem y8w {N:Nat}(ps:List Put9){D:Dev}{b:Nat}(hp:∀ p∈ps,x9n N p)(h:CleanP D N b):∃ E,D.all9 ps=(0,E)∧CleanP E N (b+ps.length)∧E.cells=q2h ps D.cells:=by
 obtain⟨E,m',h1,h2,h3⟩:=y0n ps 0 hp h
 exact⟨E,by unfold Dev.all9;rw[h1],h2,h3⟩
theorem x2a {ps:List Put9}{base:Nat}(hb:∀ (t:Nat) (x:Put9),ps[t]?=some x→x.at_=((base+t:Nat):Int)){cs:List Cell}(hl:base+ps.length≤cs.length):∀ j,j≤ps.length →
 (∀ (t:Nat) (x:Put9),ps[t]?=some x→(q2h (ps.take j) cs)[base+t]?=if t<j then some (q7q x.s) else cs[base+t]?)∧∀ a,(a<base∨base+ps.length≤a)→(q2h (ps.take j) cs)[a]?=cs[a]?
 |0,_=>⟨fun t x _=>by rw[if_neg (by omega)];rfl,fun a _=>rfl⟩
 |j+1,hj=>by
  obtain⟨h1,h2⟩:=x2a hb hl j (by omega)
  have hx:=k0w (show j<ps.length by omega)
  generalize ps[j]=y at hx
  have hy:=hb j y hx
  have e:q2h (ps.take (j+1)) cs=(q2h (ps.take j) cs).set (base+j) (q7q y.s):=by
   rw[k2t,hx,v0g]
   show (q2h (ps.take j) cs).set y.at_.toNat (q7q y.s)=_
   rw[hy,k0u]
  have hlen:=x1q (ps.take j) cs
  rw[e]
  refine⟨fun t x ht=>?_,fun a ha=>?_⟩
  ·rw[List.getElem?_set]
   by_cases et:j=t
   ·subst et
    rw[hx]at ht
    obtain rfl:=k0x ht
    rw[if_pos rfl,if_pos (by omega),if_pos (by omega)]
   ·rw[if_neg (by omega),h1 t x ht]
    by_cases e2:t<j
    ·rw[if_pos e2,if_pos (by omega)]
    ·rw[if_neg e2,if_neg (by omega)]
  ·rw[List.getElem?_set,if_neg (by omega)]
   exact h2 a ha
structure SnapG (vol:Int) (g:GeoV) (area epoch no:Int) (k m S:Nat):Prop where
 may:g.may=true
 hk:g.k=k
 hm:g.m=m
 hs:g.s=S
 a0:0≤area
 a1:area≤1
 word:q4f [vol,epoch,no]=true
def GeoV.base (g:GeoV)(area:Int):Nat:=(4+2*g.w+area*(g.s*(g.k+g.m))).toNat
variable {vol:Int} {g:GeoV} {area epoch no:Int} {k m S:Nat}
theorem SnapG.first (h:SnapG vol g area epoch no k m S){s:Nat}(hs:s<S):q1x g area s:=⟨h.may,h.a0,h.a1,by omega,by have:=h.hs;omega⟩
theorem SnapG.nat (h:SnapG vol g area epoch no k m S):1≤S∧S≤32∧1≤k∧k≤16∧1≤m∧m≤8:=by
 obtain⟨h1,h2,h3,h4,h5,h6,h7,h8⟩:=V7 (V5 h.may)
 have:=h.hk;have:=h.hm;have:=h.hs
 omega
theorem SnapG.base0 (h:SnapG vol g area epoch no k m S):0≤4+2*g.w+area*(g.s*(g.k+g.m))∧area*(g.s*(g.k+g.m))=area*((S*(k+m):Nat):Int):=by
 obtain⟨h1,h2,h3,h4,h5,h6,h7,h8⟩:=V7 (V5 h.may)
 have e:g.s*(g.k+g.m)=((S*(k+m):Nat):Int):=by rw[h.hk,h.hm,h.hs];simp
 rw[e]
 have:0≤area*((S*(k+m):Nat):Int):=Int.mul_nonneg h.a0 (by omega)
 exact⟨by omega,rfl⟩
theorem SnapG.at_ (h:SnapG vol g area epoch no k m S)(s:Nat):g.at_ area s=((g.base area+s*(k+m):Nat):Int):=by
 obtain⟨b0,_⟩:=h.base0
 unfold GeoV.at_ GeoV.base
 rw[Int.add_mul,Int.mul_assoc,Int.natCast_add,Int.toNat_of_nonneg b0,h.hk,h.hm,h.hs]
 simp only[Int.natCast_mul,Int.natCast_add]
 omega
theorem SnapG.fits (h:SnapG vol g area epoch no k m S):g.base area+S*(k+m)≤g.secs∧g.secs≤4096:=by
 obtain⟨b0,b1⟩:=h.base0
 obtain⟨q1,q2,_⟩:=q9p h.may
 have e:2*g.s*(g.k+g.m)=2*((S*(k+m):Nat):Int):=by rw[h.hk,h.hm,h.hs,Int.mul_assoc];simp
 rw[e]at q1
 have ha:area=0∨area=1:=by have:=h.a0;have:=h.a1;omega
 refine⟨?_,q2⟩
 unfold GeoV.base
 rw[b1]
 generalize S*(k+m)=n at *
 rcases ha with rfl|rfl
 ·rw[Int.zero_mul];omega
 ·rw[Int.one_mul];omega
theorem z8e {S n s i:Nat}(hs:s<S)(hi:i<n):s*n+i<S*n:=by
 have:=k2v n (show s+1≤S from hs)
 rw[Nat.succ_mul]at this
 omega
theorem w4j {P:x9}{k m S s:Nat}(hP:P.length=228*(S*k))(hs:s<S):∀ x∈J3 P k m s,x.length=228:=fun x hx=>by
 have hr:228*((s+1)*k)≤P.length:=by rw[hP];exact Nat.mul_le_mul_left 228 (k2v k hs)
 unfold J3 at hx
 rcases List.mem_append.mp hx with h|h
 ·exact q9m hr _ h
 ·unfold q8u at h
  rw[List.mem_map]at h
  obtain⟨a,_,rfl⟩:=h
  exact X3 a (q9m hr) (k1v _)
theorem y2n {P:x9}{k m S s i:Nat}(hP:P.length=228*(S*k))(hs:s<S)(hi:i<k+m):((J3 P k m s).getD i []).length=228:=by
 rw[k0v,k0w (by rw[q9n];exact hi)]
 exact w4j hP hs _ (k1w _)
theorem w4k {a b c:Int}(h:q4f [a,b,c]=true):X2 a=true∧X2 b=true∧X2 c=true:=by
 unfold q4f at h
 simp only[List.all_cons,List.all_nil,Bool.and_true,Bool.and_eq_true,decide_eq_true_eq]at h
 unfold X2
 simp only[Bool.and_eq_true,decide_eq_true_eq]
 exact⟨h.1,h.2.1,h.2.2⟩
abbrev w4m (vol:Int)(g:GeoV)(area epoch no:Int)(P:x9)(k m s i:Nat):Blk:=⟨4,vol,g.at_ area s+i,epoch,no,(J3 P k m s).getD i []⟩
abbrev w0i (vol:Int)(g:GeoV)(area epoch no:Int)(P:x9)(k m s i:Nat):x9:=(v6h vol g area epoch no (J3 P k m s) s i).s
theorem SnapG.sector (h:SnapG vol g area epoch no k m S){P:x9}(hP:P.length=228*(S*k)){s i:Nat}(hs:s<S)(hi:i<k+m) :
 (w0i vol g area epoch no P k m s i).length=256∧q3g (w0i vol g area epoch no P k m s i)=true∧W9 (w0i vol g area epoch no P k m s i)=(w4m vol g area epoch no P k m s i,0):=by
 obtain⟨f1,f2⟩:=h.fits
 obtain⟨w1,w2,w3⟩:=w4k h.word
 have hlt:=z8e hs hi
 have hl:=y2n (m:=m) hP hs hi
 have hn:(w4m vol g area epoch no P k m s i).nums=true:=by
  have w4:X2 (g.at_ area s+i)=true:=by
   rw[h.at_ s]
   unfold X2
   simp only[Bool.and_eq_true,decide_eq_true_eq]
   omega
  show (decide ((4:Int)≥1)&&decide ((4:Int)≤4)&&[vol,g.at_ area s+i,epoch,no].all X2)=true
  simp only[List.all_cons,List.all_nil,w1,w2,w3,w4]
  rfl
 have e:(w4m vol g area epoch no P k m s i).sld=(J5 (w4m vol g area epoch no P k m s i).all,0):=by
  unfold Blk.sld;rw[hn,k1s (show ¬ ((J3 P k m s).getD i []).length > 228 by omega)]
 have es:w0i vol g area epoch no P k m s i=J5 (w4m vol g area epoch no P k m s i).all:=by
  show (w4m vol g area epoch no P k m s i).sld.1=_
  rw[e]
 have hall:=q6m (w4m vol g area epoch no P k m s i) (by show ((J3 P k m s).getD i []).length≤228;omega)
 rw[es]
 exact⟨by rw[q3p,hall],q8i _,z5q hn (by show ((J3 P k m s).getD i []).length≤228;omega)⟩
theorem SnapG.kept (h:SnapG vol g area epoch no k m S){P:x9}(hP:P.length=228*(S*k)){s i:Nat}(hs:s<S)(hi:i<k+m) :
 q5s vol (g.at_ area s) no i (w0i vol g area epoch no P k m s i)=(J3 P k m s).getD i []:=by
 unfold q5s
 rw[(h.sector hP hs hi).2.2]
 have hl:=y2n (m:=m) hP hs hi
 simp only[beq_self_eq_true,Bool.true_and,Bool.and_true]
 rw[show ((((J3 P k m s).getD i []).length:Int)==228)=true from by rw[hl];rfl]
theorem z5y {P:x9}:∀ S' s i,s<S'→i<k+m→(q5r vol g area epoch no P k m S')[s*(k+m)+i]?=some (v6h vol g area epoch no (J3 P k m s) s i)
 |0,s,i,hs,_=>by omega
 |S'+1,s,i,hs,hi=>by
  have hl:=q4v (vol:=vol) (g:=g) (area:=area) (epoch:=epoch) (no:=no) (P:=P) (k:=k) (m:=m) S'
  unfold q5r
  by_cases e:s<S'
  ·rw[k0s (by rw[hl];exact z8e e hi)]
   exact z5y S' s i e hi
  ·have e:s=S':=by omega
   subst e
   rw[k1q (by rw[hl];omega),hl,Nat.add_sub_cancel_left]
   unfold z2g
   rw[k1z,k2s (by rw[q9n];exact hi)];rfl
theorem y2p {n t:Nat}(_hn:0<n):t=(t / n)*n+t % n:=by
 have:=Nat.div_add_mod t n
 rw[Nat.mul_comm]at this
 omega
theorem SnapG.puts_at (h:SnapG vol g area epoch no k m S){P:x9}{t:Nat}{x:Put9}(ht:(q5r vol g area epoch no P k m S)[t]?=some x):x.at_=((g.base area+t:Nat):Int):=by
 obtain⟨_,_,k1,_,_,_⟩:=h.nat
 have hlt:t<S*(k+m):=by have:=(k0t.1 ht).1;rwa [q4v]at this
 have hn:0<k+m:=by omega
 have e:=y2p (t:=t) hn
 have hs:t / (k+m)<S:=Nat.div_lt_of_lt_mul (by rw[Nat.mul_comm];exact hlt)
 have hi:t % (k+m)<k+m:=Nat.mod_lt _ hn
 have:=z5y (vol:=vol) (g:=g) (area:=area) (epoch:=epoch) (no:=no) (P:=P) S _ _ hs hi
 rw[← e,ht]at this
 rw[k0x this]
 show g.at_ area ((t / (k+m):Nat):Int)+((t % (k+m):Nat):Int)=_
 rw[h.at_]
 omega
theorem SnapG.puts_ok (h:SnapG vol g area epoch no k m S){P:x9}(hP:P.length=228*(S*k)):∀ p∈q5r vol g area epoch no P k m S,x9n g.secs p:=fun p hp=>by
 obtain⟨t,ht⟩:=List.getElem?_of_mem hp
 obtain⟨_,_,k1,_,_,_⟩:=h.nat
 have hlt:t<S*(k+m):=by have:=(k0t.1 ht).1;rwa [q4v]at this
 have hn:0<k+m:=by omega
 have e:=y2p (t:=t) hn
 have hs:t / (k+m)<S:=Nat.div_lt_of_lt_mul (by rw[Nat.mul_comm];exact hlt)
 have hi:t % (k+m)<k+m:=Nat.mod_lt _ hn
 have hg:=z5y (vol:=vol) (g:=g) (area:=area) (epoch:=epoch) (no:=no) (P:=P) S _ _ hs hi
 rw[← e,ht]at hg
 have hat:=h.puts_at ht
 obtain⟨f1,f2⟩:=h.fits
 refine⟨by omega,by omega,?_⟩
 rw[k0x hg]
 exact(h.sector hP hs hi).1
theorem SnapG.cells (h:SnapG vol g area epoch no k m S){P:x9}{cs:List Cell}(hl:cs.length=g.secs){j:Nat}(hj:j≤S*(k+m)) :
 (∀ s i,s<S→i<k+m→(q2h ((q5r vol g area epoch no P k m S).take j) cs)[g.base area+(s*(k+m)+i)]?=if s*(k+m)+i<j then some (q7q (w0i vol g area epoch no P k m s i)) else cs[g.base area+(s*(k+m)+i)]?) ∧
 ∀ a,(a<g.base area∨g.base area+S*(k+m)≤a)→(q2h ((q5r vol g area epoch no P k m S).take j) cs)[a]?=cs[a]?:=by
 obtain⟨f1,f2⟩:=h.fits
 have hlen:=q4v (vol:=vol) (g:=g) (area:=area) (epoch:=epoch) (no:=no) (P:=P) (k:=k) (m:=m) S
 obtain⟨h1,h2⟩:=x2a (ps:=q5r vol g area epoch no P k m S) (base:=g.base area) (fun t x ht=>h.puts_at ht) (cs:=cs) (by rw[hlen];omega) j (by omega)
 rw[hlen]at h2
 exact⟨fun s i hs hi=>h1 _ _ (z5y S s i hs hi),h2⟩
theorem w4n {D:Dev}{N b:Nat}(h:CleanP D N b){A:Nat}:∀ n,A+n≤N→(D.reads A n).1=(List.range n).map (fun i=>Q2 D (A+i))∧CleanP (D.reads A n).2 N b∧(D.reads A n).2.cells=D.cells
 |0,_=>⟨rfl,h,rfl⟩
 |n+1,hk=>by
  obtain⟨h1,h2,h3⟩:=w4n h (A:=A) n (by omega)
  obtain⟨r1,r2,r3⟩:=u0c h2 (show A+n<N by omega)
  have ec:((A+n:Nat):Int)=(A:Int)+n:=by omega
  rw[ec]at r1 r2
  refine⟨?_,?_,?_⟩
  ·show (D.reads A n).1++[((D.reads A n).2.read ((A:Int)+n)).1.1]=_
   rw[h1,r1,List.range_succ,List.map_append]
   unfold Q2
   rw[h3];rfl
  ·show CleanP ((D.reads A n).2.read ((A:Int)+n)).2 N b
   rw[r2];exact r3
  ·show ((D.reads A n).2.read ((A:Int)+n)).2.cells=_
   rw[r2];exact h3
def z2x (vol:Int)(g:GeoV)(area no:Int)(n:Nat)(E:Dev)(s:Nat):List x9:=(List.range n).map fun i=>q5s vol (g.at_ area s) no i (Q2 E (g.base area+(s*n+i)))
def v0r (vol:Int)(g:GeoV)(area no:Int)(k m:Nat)(E:Dev)(s:Nat):Bool:=decide ((V2 (z2x vol g area no (k+m) E s) k (k+m)).length<k)
structure TrueP (vol:Int) (g:GeoV) (area epoch no:Int) (P:x9) (k m S:Nat) (E:Dev):Prop where
 all:∀ s i,s<S→i<k+m→q5s vol (g.at_ area s) no i (Q2 E (g.base area+(s*(k+m)+i)))=[]∨q5s vol (g.at_ area s) no i (Q2 E (g.base area+(s*(k+m)+i)))=(J3 P k m s).getD i []
theorem x2b {vol:Int}{g:GeoV}{area no:Int}{n:Nat}{E:Dev}{s i:Nat}(hi:i<n):(z2x vol g area no n E s).getD i []=q5s vol (g.at_ area s) no i (Q2 E (g.base area+(s*n+i))):=by
 unfold z2x
 rw[k0v,k1z,k2s hi];rfl
theorem v6x (h:SnapG vol g area epoch no k m S){P:x9}(hP:P.length=228*(S*k)){E:Dev}{b:Nat}(hE:CleanP E g.secs b)(hT:TrueP vol g area epoch no P k m S E){s:Nat}(hs:s<S) :
 q1r (E.reads (g.at_ area s) (k+m)).1 vol g area s no=match v0r vol g area no k m E s with|true=>([],22)|false=>(J3 P k m s,0):=by
 obtain⟨n1,n2,n3,n4,n5,n6⟩:=h.nat
 obtain⟨f1,f2⟩:=h.fits
 have hlt:=z8e (n:=k+m) (i:=k+m - 1) hs (by omega)
 obtain⟨r1,_,_⟩:=w4n hE (A:=g.base area+s*(k+m)) (k+m) (by omega)
 rw[h.at_ s,r1]
 have hL:q7b vol (g.at_ area s) no ((List.range (k+m)).map fun i=>Q2 E (g.base area+s*(k+m)+i))=z2x vol g area no (k+m) E s:=by
  unfold q7b z2x
  rw[k1x,k3q]
  refine List.map_congr_left fun i hi=>?_
  rw[k0v,k1z,k2s (List.mem_range.mp hi)]
  show q5s vol (g.at_ area s) no i (Q2 E (g.base area+s*(k+m)+i))=_
  rw[Nat.add_assoc]
 have hw:q4f [vol,no]=true:=by
  obtain⟨w1,_,w3⟩:=w4k h.word
  unfold q4f
  unfold X2 at w1 w3
  simp only[List.all_cons,List.all_nil,Bool.and_true,Bool.and_eq_true,decide_eq_true_eq]at *
  omega
 unfold q1r
 rw[z0t (h.first hs),hw,show (((((List.range (k+m)).map fun i=>Q2 E (g.base area+s*(k+m)+i)).length:Nat):Int)==g.k+g.m)=true from by rw[k1x,k3q,h.hk,h.hm];exact beq_iff_eq.mpr (by omega),hL]
 show (match (z0q (z2x vol g area no (k+m) E s) g.k.toNat g.m.toNat 228).2 != 0 with|true=>(([],22):List x9 × Int)|false=>_)=_
 rw[h.hk,h.hm,k0u,k0u]
 cases hf:v0r vol g area no k m E s with
 |true=>
  unfold v0r at hf
  unfold z0q
  rw[hf];rfl
 |false=>
  unfold v0r at hf
  have hr:228*((s+1)*k)≤P.length:=by rw[hP];exact Nat.mul_le_mul_left 228 (k2v k hs)
  have hd:=w9u (S:=z2x vol g area no (k+m) E s) (k:=k) (m:=m) (c:=228) (by omega) (by decide) (q9k P k s) (q9m hr) (fun i hi h0=>by
   rw[x2b hi]at h0 ⊢
   rcases hT.all s i hs hi with e|e
   ·rw[e]at h0;simp at h0
   ·exact e) (k0y hf)
  rw[hd];rfl
end Go.Proofs.YtkjklhcfgbaceaaGreat.AL
namespace Go.Proofs.YtkjklhcfgbaceaaGreat.AL
open Go Go.Proofs Go.Proofs.YtkjklhcfgbaceaaGreat.AL.Crc
def x5g (S:List x9):Nat→Nat
 |0=>0
 |i+1=>x5g S i+(if 0<(S.getD i []).length then 1 else 0)
theorem x2c (S:List x9)(most:Nat):∀ i,(V2 S most i).length=min most (x5g S i)
 |0=>by show 0=min most 0;omega
 |i+1=>by
  have ih:=x2c S most i
  unfold x5g
  cases h:pkd S most i with
  |true=>
   rw[(q7i h).1,k1y,List.length_singleton]
   unfold pkd at h
   rw[k1u,decide_eq_true_eq,decide_eq_true_eq]at h
   rw[if_pos h.2];omega
  |false=>
   rw[(q8p h).1]
   unfold pkd at h
   rw[Bool.and_eq_false_iff,decide_eq_false_iff_not,decide_eq_false_iff_not]at h
   rcases h with h|h
   ·split <;> omega
   ·rw[if_neg h];omega
theorem v9k {vol:Int}{g:GeoV}{area no:Int}{k m:Nat}{E:Dev}{s:Nat}:v0r vol g area no k m E s=decide (x5g (z2x vol g area no (k+m) E s) (k+m)<k):=by
 unfold v0r
 rw[x2c]
 by_cases h:x5g (z2x vol g area no (k+m) E s) (k+m)<k
 ·rw[k1t h,k1t (by omega)]
 ·rw[k1s h,k1s (by omega)]
theorem x2d {s:x9}(h:(W9 s).2≠0)(vol a no:Int)(i:Nat):q5s vol a no i s=[]:=by
 unfold q5s
 rw[show ((W9 s).2==0)=false from beq_eq_false_iff_ne.mpr h];rfl
variable {vol:Int} {g:GeoV} {area epoch no:Int} {k m S:Nat}
theorem SnapG.room (h:SnapG vol g area epoch no k m S):g.room=((228*(S*k):Nat):Int):=by
 unfold GeoV.room
 rw[h.may,h.hs,h.hk]
 show (S:Int)*k*228=_
 rw[Int.mul_comm];simp
structure WroteP (vol:Int) (g:GeoV) (area epoch no:Int) (P:x9) (k m S:Nat) (E:Dev):Prop where
 there:∀ s i,s<S→i<k+m→E.cells[g.base area+(s*(k+m)+i)]?=some (q7q (w0i vol g area epoch no P k m s i))
theorem SnapG.putsB (h:SnapG vol g area epoch no k m S){b:x9}(hb:b.length≤228*(S*k)):putsB vol g area epoch no b=(q5r vol g area epoch no (z6e (228*(S*k)) b) k m S,0):=by
 obtain⟨n1,_⟩:=h.nat
 unfold Go.Proofs.YtkjklhcfgbaceaaGreat.AL.putsB
 rw[show q1u g area 0=(g.at_ area 0,0) from z0t (h.first (s:=0) (by omega)),h.word,h.room,k1s (show ¬ (b.length:Int) > ((228*(S*k):Nat):Int) by omega),k0u,h.hk,h.hm,h.hs,k0u,k0u,k0u]
 rfl
theorem w0j (h:SnapG vol g area epoch no k m S){b:x9}(hb:b.length≤228*(S*k)){D:Dev}{n:Nat}(hD:CleanP D g.secs n) :
 ∃ E,D.snapWrite vol g area epoch no b=(0,E)∧CleanP E g.secs (n+S*(k+m))∧WroteP vol g area epoch no (z6e (228*(S*k)) b) k m S E∧∀ a,(a<g.base area∨g.base area+S*(k+m)≤a)→E.cells[a]?=D.cells[a]?:=by
 have hP:=y0d hb
 obtain⟨E,e1,e2,e3⟩:=y8w _ (h.puts_ok hP) hD
 have hlen:=q4v (vol:=vol) (g:=g) (area:=area) (epoch:=epoch) (no:=no) (P:=z6e (228*(S*k)) b) (k:=k) (m:=m) S
 obtain⟨c1,c2⟩:=h.cells (P:=z6e (228*(S*k)) b) hD.len (k1v (S*(k+m)))
 rw[List.take_of_length_le (by omega),← e3]at c1 c2
 refine⟨E,?_,by rw[hlen]at e2;exact e2,⟨fun s i hs hi=>?_⟩,c2⟩
 ·unfold Dev.snapWrite
  rw[h.putsB hb];exact e1
 ·rw[c1 s i hs hi,if_pos (z8e hs hi)]
end Go.Proofs.YtkjklhcfgbaceaaGreat.AL
namespace Go.Proofs.YtkjklhcfgbaceaaGreat.AL
open Go Go.Proofs Go.Proofs.YtkjklhcfgbaceaaGreat.AL.Crc
def bdL (v sh:Nat→x9)(l:List Nat):List Nat:=l.filter fun a=>!(sh a==v a)
theorem z2k (v sh:Nat→x9)(l r:List Nat):bdL v sh (l++r)=bdL v sh l++bdL v sh r:=List.filter_append ..
theorem q6n (v sh:Nat→x9)(a:Nat):bdL v sh [a]=match sh a==v a with|true=>[]|false=>[a]:=by
 unfold bdL
 cases h:sh a==v a with
 |true=>rw[List.filter_cons_of_neg (by rw[h];exact Bool.false_ne_true)];rfl
 |false=>rw[List.filter_cons_of_pos (by rw[h];rfl)];rfl
abbrev y0p (sh:Nat→x9)(a:Nat):Put9:=⟨a,sh a⟩
theorem w0k (W:Nat→x9)(v sh:Nat→x9)(l:List Nat)(hW:∀ k a,l[k]?=some a→W k=sh a):∀ k,k≤l.length→V9 W (l.map v) (l.map fun a:Nat=>(a:Int)) k=(bdL v sh (l.take k)).map (y0p sh)
 |0,_=>rfl
 |k+1,hk=>by
  have hx:=k0w (show k<l.length by omega)
  generalize l[k]=a at hx
  rw[k2t,hx,z2k,List.map_append,← w0k W v sh l hW k (by omega)]
  have e1:(l.map v).getD k []=v a:=by rw[k0v,k1z,hx];rfl
  have e2:(l.map fun a:Nat=>(a:Int)).getD k 0=a:=by rw[k0v,k1z,hx];rfl
  show (match W k==(l.map v).getD k []with
   |true=>V9 W (l.map v) (l.map fun a:Nat=>(a:Int)) k
   |false=>V9 W (l.map v) (l.map fun a:Nat=>(a:Int)) k++[⟨(l.map fun a:Nat=>(a:Int)).getD k 0,W k⟩])=_++(bdL v sh [a]).map (y0p sh)
  rw[e1,e2,hW k a hx,q6n]
  cases sh a==v a with
  |true=>exact(List.append_nil _).symm
  |false=>rfl
theorem z1b {W:Nat→x9}{v sh:Nat→x9}{l:List Nat}(hW:∀ k a,l[k]?=some a→W k=sh a):V9 W (l.map v) (l.map fun a:Nat=>(a:Int)) (l.map fun a:Nat=>(a:Int)).length=(bdL v sh l).map (y0p sh):=by
 rw[w0k W v sh l hW _ (by rw[k1x];exact k1v _),k1x,List.take_length]
theorem z8f {vol:Int}{a:Nat}{s:x9}(h:s=q0d vol a∨(W9 s).2≠0):q4h vol a s=q0d vol a:=by
 rcases h with rfl|h
 ·unfold q4h
  split
  ·rfl
  ·rfl
 ·unfold q4h
  rw[show ((W9 s).2==0)=false from beq_eq_false_iff_ne.mpr h]
  rfl
theorem q1c {D:Dev}{a:Nat}{s:x9}(h:D.cells[a]?=some (q7q s)):Q2 D a=s:=w0h D a h
structure LaidP (x:Sup) (next:Int) (w k m S:Nat) (P:List Pc) (B:x9) (D:Dev):Prop where
 xm:x.may=true
 G:SnapG x.vol x.g x.area 0 x.snap k m S
 hw:x.g.w=w
 sup:∀ i:Nat,i<4→D.cells[i]?=some (q7q (x.sector i).1)
 log:CellsP x.vol x.g x.start P D.cells
 pc:∀ (i:Nat) (p:Pc),P[i]?=some p→p.may=true∧p.seq=x.start+i
 fit:P.length≤w
 nx:next=x.start+P.length
 most:next≤4294967295
 snap:WroteP x.vol x.g x.area 0 x.snap B k m S D
 hB:B.length=228*(S*k)
 other:∀ a:Nat,x.g.base (1 - x.area)≤a→a<x.g.base (1 - x.area)+S*(k+m)→D.cells[a]?=some (q7q (q0d x.vol a))
def z6v (D E:Dev)(N:Nat):Prop:=∀ a,a<N→Q2 E a=Q2 D a∨(W9 (Q2 E a)).2≠0
variable {x:Sup} {next:Int} {w k m S:Nat} {P:List Pc} {B:x9} {D:Dev}
theorem LaidP.start (h:LaidP x next w k m S P B D):(0≤x.start∧x.start≤4294967295)∧x.g.may=true:=y2k h.xm
theorem LaidP.vol (h:LaidP x next w k m S P B D):X2 x.vol=true:=(w4k h.G.word).1
theorem LaidP.geo (h:LaidP x next w k m S P B D):GeoN x.g w (k+m) S:=⟨h.start.2,h.hw,by rw[h.G.hk,h.G.hm];rfl,h.G.hs⟩
def z2y (x:Sup)(w S:Nat)(P:List Pc)(i:Nat):Prop:=(1≤i∧i≤w∧∃ t:Nat,t<P.length∧q2s x.g x.start t=(i:Int) - 1)∨(w<i∧(((i - 1 - w) / S:Nat):Int)=x.area)
theorem y0q (a b:Nat):((a:Int)).tmod b=((a % b:Nat):Int):=rfl
theorem w0m (a b:Nat):((a:Int)).tdiv b=((a / b:Nat):Int):=rfl
theorem v0s {x:Sup}{w:Nat}(hw:x.g.w=w)(h0:0≤x.start){slot:Nat}(hs:slot<w):∃ t:Nat,t<w∧q9r x slot=x.start+t∧q2s x.g x.start t=slot:=by
 obtain⟨st,hst⟩:∃ st:Nat,x.start=st:=⟨x.start.toNat,by omega⟩
 have hr:=Nat.mod_lt st (show 0<w by omega)
 refine⟨(slot+w - st % w) % w,Nat.mod_lt _ (by omega),?_,?_⟩
 ·unfold q9r
  rw[hst,hw,y0q,show (slot:Int) - ((st % w:Nat):Int)+(w:Int)=((slot+w - st % w:Nat):Int) by omega,y0q]
 ·unfold q2s
  rw[hst,hw,show (st:Int)+(((slot+w - st % w) % w:Nat):Int)=((st+(slot+w - st % w) % w:Nat):Int) by omega,y0q,Nat.add_mod_mod]
  have e:=Nat.div_add_mod st w
  rw[show st+(slot+w - st % w)=slot+w+w*(st / w) by omega,Nat.add_mul_mod_self_left,Nat.add_mod_right,Nat.mod_eq_of_lt hs]
theorem v6y {x:Sup}{slot seq:Int}{s0 s1:x9}{p:Pc}(hp:p.seq=seq)(h0:q0c s0 x.vol x.g 0 slot=(p,true)∨(q0c s0 x.vol x.g 0 slot).2=false)(h1:q0c s1 x.vol x.g 1 slot=(p,true)∨(q0c s1 x.vol x.g 1 slot).2=false) :
 q5u x slot seq [s0,s1] 2=match (q0c s0 x.vol x.g 0 slot).2||(q0c s1 x.vol x.g 1 slot).2 with|true=>(p,true)|false=>(Pc.zero,false):=by
 have b1:q5u x slot seq [s0,s1] 1=match (q0c s0 x.vol x.g 0 slot).2 with|true=>(p,true)|false=>(Pc.zero,false):=by
  show (match (q0c s0 x.vol x.g 0 slot).2&&((q0c s0 x.vol x.g 0 slot).1.seq==seq&&(!false||decide ((q0c s0 x.vol x.g 0 slot).1.epoch > Pc.zero.epoch))) with
  |true=>((q0c s0 x.vol x.g 0 slot).1,true)
  |false=>(Pc.zero,false))=_
  rcases h0 with h0|h0
  ·rw[h0]
   show (match true&&(p.seq==seq&&true) with|true=>(p,true)|false=>(Pc.zero,false))=(p,true)
   rw[hp,beq_self_eq_true];rfl
  ·rw[h0];rfl
 show (match (q0c s1 x.vol x.g 1 slot).2&&((q0c s1 x.vol x.g 1 slot).1.seq==seq&&(!(q5u x slot seq [s0,s1] 1).2||decide ((q0c s1 x.vol x.g 1 slot).1.epoch > (q5u x slot seq [s0,s1] 1).1.epoch))) with
  |true=>((q0c s1 x.vol x.g 1 slot).1,true)
  |false=>q5u x slot seq [s0,s1] 1)=_
 rw[b1]
 rcases h1 with h1|h1
 ·rw[h1]
  rcases h0 with h0|h0
  ·rw[h0]
   show (match true&&(p.seq==seq&&(!true||decide (p.epoch > p.epoch))) with|true=>(p,true)|false=>(p,true))=(p,true)
   split <;> rfl
  ·rw[h0]
   show (match true&&(p.seq==seq&&true) with|true=>(p,true)|false=>(Pc.zero,false))=(p,true)
   rw[hp,beq_self_eq_true];rfl
 ·rw[h1,Bool.or_false];rfl
theorem u3f {w n:Nat}:Z9 w n 0=List.range 4:=rfl
theorem w0n {w n i:Nat}(h0:1≤i)(h1:i≤w):Z9 w n i=[3+i,3+w+i]:=by unfold Z9;rw[if_neg (by omega),if_pos h1]
theorem u0e {w n i:Nat}(h1:w<i):Z9 w n i=(List.range n).map fun j=>4+2*w+(i - 1 - w)*n+j:=by unfold Z9;rw[if_neg (by omega),if_neg (by omega)]
theorem v6z (h:LaidP x next w k m S P B D)(E:Dev):q3t x next 0 ((Z9 w (k+m) 0).map fun a:Nat=>(a:Int)) ((Z9 w (k+m) 0).map (Q2 E))=((bdL (Q2 E) (Q2 D) (Z9 w (k+m) 0)).map (y0p (Q2 D)),0):=by
 show (V9 (fun j=>(x.sector j).1) _ _ _,(0:Int))=_
 rw[z1b (sh:=Q2 D)]
 intro j a ha
 rw[u3f]at ha
 have hj:j<4:=by have:=(k0t.1 ha).1;rwa [k3q]at this
 rw[k2s hj]at ha
 obtain rfl:=k0x ha
 exact(q1c (h.sup j hj)).symm
theorem v0t (h:LaidP x next w k m S P B D){E:Dev}(hE:z6v D E x.g.secs){i:Nat}(i0:1≤i)(i1:i≤w) :
 ((¬ z2y x w S P i∨(bdL (Q2 E) (Q2 D) (Z9 w (k+m) i)).length≤1)→q3t x next i ((Z9 w (k+m) i).map fun a:Nat=>(a:Int)) ((Z9 w (k+m) i).map (Q2 E))=((bdL (Q2 E) (Q2 D) (Z9 w (k+m) i)).map (y0p (Q2 D)),0)) ∧
 (z2y x w S P i→1<(bdL (Q2 E) (Q2 D) (Z9 w (k+m) i)).length→q3t x next i ((Z9 w (k+m) i).map fun a:Nat=>(a:Int)) ((Z9 w (k+m) i).map (Q2 E))=([],22)):=by
 obtain⟨⟨st0,st1⟩,hg⟩:=h.start
 obtain⟨e1,e2,e3,e4,e5,e6,e7,e8⟩:=h.geo.le
 have hww:=h.hw
 obtain⟨t,t1,t2,t3⟩:=v0s h.hw st0 (show i - 1<w by omega)
 have ei:(i:Int) - 1=((i - 1:Nat):Int):=by omega
 have a0:(q0j x.g 0 ((i - 1:Nat):Int)).toNat=3+i:=by rw[y0i];omega
 have a1:(q0j x.g 1 ((i - 1:Nat):Int)).toNat=3+w+i:=by rw[y0j];omega
 have hwl:q3t x next i ((Z9 w (k+m) i).map fun a:Nat=>(a:Int)) ((Z9 w (k+m) i).map (Q2 E))=z0v x next ((i - 1:Nat):Int) ((Z9 w (k+m) i).map fun a:Nat=>(a:Int)) ((Z9 w (k+m) i).map (Q2 E)):=by
  unfold q3t
  rw[k1s (show ¬ (i:Int)=0 by omega),k1t (show (i:Int)≤x.g.w by omega),ei]
 have n0:=hE (3+i) (by omega)
 have n1:=hE (3+w+i) (by omega)
 rw[hwl]
 unfold z0v
 rw[t2]
 by_cases hl:t<P.length
 ·rw[k1t (show x.start+(t:Int)<next by rw[h.nx];omega)]
  obtain⟨p,hp⟩:∃ p,P[t]?=some p:=⟨_,k0w hl⟩
  obtain⟨pm,ps⟩:=h.pc t p hp
  have c0:=h.log.used t p hp 0 (.inl rfl)
  have c1:=h.log.used t p hp 1 (.inr rfl)
  rw[t3,a0]at c0
  rw[t3,a1]at c1
  have d0:=q1c c0
  have d1:=q1c c1
  have hsl:p.seq.tmod x.g.w=((i - 1:Nat):Int):=by rw[ps];exact t3
  have q0:=z9x pm hg h.vol (m:=0) (by omega) (by omega)
  have q1:=z9x pm hg h.vol (m:=1) (by omega) (by omega)
  rw[hsl,← d0]at q0
  rw[hsl,← d1]at q1
  have need:z2y x w S P i:=.inl ⟨i0,i1,t,hl,by rw[t3];omega⟩
  have hb:=v6y (x:=x) (slot:=((i - 1:Nat):Int)) (seq:=x.start+t) (s0:=Q2 E (3+i)) (s1:=Q2 E (3+w+i)) ps (by rcases n0 with n0|n0;exact .inl (by rw[n0];exact q0);exact .inr (y0m n0 ..)) (by rcases n1 with n1|n1;exact .inl (by rw[n1];exact q1);exact .inr (y0m n1 ..))
  have hW:∀ (j:Nat) (a:Nat),(Z9 w (k+m) i)[j]?=some a→(p.sector x.vol x.g j).1=Q2 D a:=by
   intro j a ha
   rw[w0n i0 i1]at ha
   match j,ha with
   |0,ha=>obtain rfl:=k0x ha;exact d0.symm
   |1,ha=>obtain rfl:=k0x ha;exact d1.symm
   |j+2,ha=>exact absurd ha (by simp)
  have hlen:((Z9 w (k+m) i).map (Q2 E)).length=2:=by rw[k1x,w0n i0 i1];rfl
  have hS:(Z9 w (k+m) i).map (Q2 E)=[Q2 E (3+i),Q2 E (3+w+i)]:=by rw[w0n i0 i1];rfl
  have hbs:q5u x ((i - 1:Nat):Int) (x.start+t) ((Z9 w (k+m) i).map (Q2 E)) ((Z9 w (k+m) i).map (Q2 E)).length=match (q0c (Q2 E (3+i)) x.vol x.g 0 ((i - 1:Nat):Int)).2||(q0c (Q2 E (3+w+i)) x.vol x.g 1 ((i - 1:Nat):Int)).2 with|true=>(p,true)|false=>(Pc.zero,false):=by rw[hlen,hS];exact hb
  have hbd:bdL (Q2 E) (Q2 D) (Z9 w (k+m) i)=bdL (Q2 E) (Q2 D) [3+i]++bdL (Q2 E) (Q2 D) [3+w+i]:=by rw[w0n i0 i1];exact z2k _ _ [3+i] [3+w+i]
  have l0:(bdL (Q2 E) (Q2 D) [3+i]).length≤1∧(Q2 E (3+i)≠Q2 D (3+i)→(bdL (Q2 E) (Q2 D) [3+i]).length=1)∧(Q2 E (3+i)=Q2 D (3+i)→(bdL (Q2 E) (Q2 D) [3+i]).length=0):=by
   rw[q6n]
   refine⟨by split <;> simp,fun hne=>?_,fun he=>?_⟩
   ·rw[beq_eq_false_iff_ne.mpr (Ne.symm hne)];rfl
   ·rw[he,beq_self_eq_true];rfl
  have l1:(bdL (Q2 E) (Q2 D) [3+w+i]).length≤1∧(Q2 E (3+w+i)≠Q2 D (3+w+i)→(bdL (Q2 E) (Q2 D) [3+w+i]).length=1)∧(Q2 E (3+w+i)=Q2 D (3+w+i)→(bdL (Q2 E) (Q2 D) [3+w+i]).length=0):=by
   rw[q6n]
   refine⟨by split <;> simp,fun hne=>?_,fun he=>?_⟩
   ·rw[beq_eq_false_iff_ne.mpr (Ne.symm hne)];rfl
   ·rw[he,beq_self_eq_true];rfl
  have hnb:(bdL (Q2 E) (Q2 D) (Z9 w (k+m) i)).length=(bdL (Q2 E) (Q2 D) [3+i]).length+(bdL (Q2 E) (Q2 D) [3+w+i]).length:=by rw[hbd,k1y]
  constructor
  ·intro hc
   have hc:(bdL (Q2 E) (Q2 D) [3+i]).length+(bdL (Q2 E) (Q2 D) [3+w+i]).length≤1:=by
    rcases hc with hc|hc
    ·exact absurd need hc
    ·omega
   have hT:((q0c (Q2 E (3+i)) x.vol x.g 0 ((i - 1:Nat):Int)).2||(q0c (Q2 E (3+w+i)) x.vol x.g 1 ((i - 1:Nat):Int)).2)=true:=by
    by_cases g0:Q2 E (3+i)=Q2 D (3+i)
    ·rw[g0,q0];rfl
    ·by_cases g1:Q2 E (3+w+i)=Q2 D (3+w+i)
     ·rw[g1,q1,Bool.or_true]
     ·have:=l0.2.1 g0;have:=l1.2.1 g1;omega
   rw[hT]at hbs
   rw[hbs]
   show (V9 (fun j:Nat=>(p.sector x.vol x.g (j:Int)).1) _ _ _,(0:Int))=_
   rw[z1b hW]
  ·intro _ hc
   rw[hnb]at hc
   have g0:(W9 (Q2 E (3+i))).2≠0:=by
    rcases n0 with n0|n0
    ·have:=l0.2.2 n0;omega
    ·exact n0
   have g1:(W9 (Q2 E (3+w+i))).2≠0:=by
    rcases n1 with n1|n1
    ·have:=l1.2.2 n1;omega
    ·exact n1
   rw[y0m g0,y0m g1]at hbs
   rw[hbs];rfl
 ·rw[k1s (show ¬ x.start+(t:Int)<next by rw[h.nx];omega)]
  have nn:∀ j:Nat,j<P.length→q2s x.g x.start j≠((i - 1:Nat):Int):=fun j hj he=>by
   have:=w6s hg st0 (i:=j) (j:=t) (by omega) (by omega)
   rw[t3,he]at this
   exact this rfl
  have c0:=h.log.free ((i - 1:Nat):Int) 0 (by omega) (by omega) (.inl rfl) nn
  have c1:=h.log.free ((i - 1:Nat):Int) 1 (by omega) (by omega) (.inr rfl) nn
  rw[a0]at c0
  rw[a1]at c1
  have d0:=q1c c0
  have d1:=q1c c1
  refine⟨fun _=>?_,fun hn=>?_⟩
  ·show (V9 (fun j=>q4h x.vol _ _) _ _ _,(0:Int))=_
   rw[z1b (sh:=Q2 D)]
   intro j a ha
   rw[w0n i0 i1]at ha ⊢
   match j,ha with
   |0,ha=>
    obtain rfl:=k0x ha
    show q4h x.vol ((3+i:Nat):Int) (Q2 E (3+i))=_
    rw[z8f (by rw[d0]at n0;exact n0)]
    exact d0.symm
   |1,ha=>
    obtain rfl:=k0x ha
    show q4h x.vol ((3+w+i:Nat):Int) (Q2 E (3+w+i))=_
    rw[z8f (by rw[d1]at n1;exact n1)]
    exact d1.symm
   |j+2,ha=>exact absurd ha (by simp)
  ·rcases hn with ⟨_,_,j,hj,he⟩|⟨hn,_⟩
   ·exact absurd (he.trans ei) (nn j hj)
   ·omega
end Go.Proofs.YtkjklhcfgbaceaaGreat.AL
namespace Go.Proofs.YtkjklhcfgbaceaaGreat.AL
open Go Go.Proofs Go.Proofs.YtkjklhcfgbaceaaGreat.AL.Crc
variable {x:Sup} {next:Int} {w k m S:Nat} {P:List Pc} {B:x9} {D:Dev}
theorem x2e {w n i j a:Nat}(h1:w<i)(ha:(Z9 w n i)[j]?=some a):j<n∧a=4+2*w+(i - 1 - w)*n+j:=by
 rw[u0e h1,k1z]at ha
 have hj:j<n:=by
  by_cases hj:j<n
  ·exact hj
  ·rw[List.getElem?_eq_none (by rw[k3q];omega)]at ha
   exact absurd ha (by simp)
 rw[k2s hj]at ha
 exact⟨hj,(k0x ha).symm⟩
theorem v7a {v sh:Nat→x9}{l:List Nat}{K:List x9}(hK:∀ j a,l[j]?=some a→(0<(K.getD j []).length↔sh a=v a)):∀ j,j≤l.length→x5g K j+(bdL v sh (l.take j)).length=j
 |0,_=>rfl
 |j+1,hj=>by
  have hx:=k0w (show j<l.length by omega)
  generalize l[j]=a at hx
  have hk:=hK j a hx
  have ih:=v7a hK j (by omega)
  rw[k2t,hx,z2k,k1y]
  unfold x5g
  show _+_+(_+(bdL v sh [a]).length)=_
  rw[q6n]
  by_cases e:sh a=v a
  ·rw[if_pos (hk.mpr e),e,beq_self_eq_true]
   show _+1+(_+0)=_
   omega
  ·rw[if_neg (fun h=>e (hk.mp h)),beq_eq_false_iff_ne.mpr e]
   show _+0+(_+1)=_
   omega
theorem z1c {g:GeoV}{area:Int}(hg:GeoN g w (k+m) S){A:Nat}(ha:area=A):g.base area=4+2*w+A*(S*(k+m)):=by
 unfold GeoV.base
 rw[hg.hw,hg.hn,hg.hs,ha,show 4+2*(w:Int)+(A:Int)*((S:Int)*((k+m:Nat):Int))=((4+2*w+A*(S*(k+m)):Nat):Int) by simp,k0u]
theorem w0p (h:LaidP x next w k m S P B D){E:Dev}{b:Nat}(hC:CleanP E x.g.secs b)(hE:z6v D E x.g.secs){i:Nat}(i0:w<i)(i1:i<1+w+2*S) :
 ((¬ z2y x w S P i∨(bdL (Q2 E) (Q2 D) (Z9 w (k+m) i)).length≤m)→q3t x next i ((Z9 w (k+m) i).map fun a:Nat=>(a:Int)) ((Z9 w (k+m) i).map (Q2 E))=((bdL (Q2 E) (Q2 D) (Z9 w (k+m) i)).map (y0p (Q2 D)),0)) ∧
 (z2y x w S P i→m<(bdL (Q2 E) (Q2 D) (Z9 w (k+m) i)).length→q3t x next i ((Z9 w (k+m) i).map fun a:Nat=>(a:Int)) ((Z9 w (k+m) i).map (Q2 E))=([],22)):=by
 obtain⟨n1,n2,n3,n4,n5,n6⟩:=h.G.nat
 obtain⟨e1,e2,e3,e4,e5,e6,e7,e8⟩:=h.geo.le
 have hww:=h.hw
 have hss:=h.G.hs
 obtain⟨A,hA⟩:∃ A:Nat,x.area=A:=⟨x.area.toNat,by have:=h.G.a0;omega⟩
 have hA1:A≤1:=by have:=h.G.a1;omega
 obtain⟨t,ht⟩:∃ t,t=i - 1 - w:=⟨_,rfl⟩
 have ei:(i:Int) - 1 - x.g.w=(t:Int):=by omega
 have hdm:=Nat.div_add_mod t S
 have hml:=Nat.mod_lt t (show 0<S by omega)
 have hq:t / S<2:=Nat.div_lt_of_lt_mul (by rw[Nat.mul_comm];omega)
 have htn:t*(k+m)=(t / S)*(S*(k+m))+(t % S)*(k+m):=by
  rw[← Nat.mul_assoc,← Nat.add_mul]
  congr 1
  rw[Nat.mul_comm];exact hdm.symm
 have hltS:∀ j,j<k+m→(t % S)*(k+m)+j<S*(k+m):=fun j hj=>z8e hml hj
 have hsec:x.g.secs=4+2*w+2*(S*(k+m)):=by rw[e7,Nat.mul_assoc]
 have hwl:q3t x next i ((Z9 w (k+m) i).map fun a:Nat=>(a:Int)) ((Z9 w (k+m) i).map (Q2 E))=q3r x t ((Z9 w (k+m) i).map fun a:Nat=>(a:Int)) ((Z9 w (k+m) i).map (Q2 E)):=by
  unfold q3t
  rw[k1s (show ¬ (i:Int)=0 by omega),k1s (show ¬ (i:Int)≤x.g.w by omega),ei]
 rw[hwl]
 unfold q3r
 rw[hss,w0m,y0q,hA]
 by_cases hq2:t / S=A
 ·have need:z2y x w S P i:=.inr ⟨i0,by rw[← ht,hA,hq2]⟩
  rw[show ((((t / S:Nat):Int)) != (A:Int))=false by rw[hq2];exact bne_self_eq_false _]
  have hb:=z1c h.geo hA
  have hat:=h.G.at_ (t % S)
  have hmem:∀ j a,(Z9 w (k+m) i)[j]?=some a→j<k+m∧a=x.g.base x.area+((t % S)*(k+m)+j):=fun j a ha=>by
   obtain⟨q1,q2⟩:=x2e i0 ha
   refine⟨q1,?_⟩
   rw[q2,← ht,hb,htn,hq2];omega
  have hT:TrueP x.vol x.g x.area 0 x.snap B k m S E:=⟨fun s j hs hj=>by
   obtain⟨f1,f2⟩:=h.G.fits
   have hlt:=z8e hs hj
   rcases hE (x.g.base x.area+(s*(k+m)+j)) (by omega) with e|e
   ·rw[e,q1c (h.snap.there s j hs hj)]
    exact .inr (h.G.kept h.hB hs hj)
   ·exact .inl (x2d e ..)⟩
  obtain⟨f1,f2⟩:=h.G.fits
  have hlt:=hltS (k+m - 1) (by omega)
  obtain⟨r1,_,_⟩:=w4n hC (A:=x.g.base x.area+(t % S)*(k+m)) (k+m) (by omega)
  have hst:=v6x h.G h.hB hC hT hml
  rw[hat]at hst
  have hS:(Z9 w (k+m) i).map (Q2 E)=(E.reads ((x.g.base x.area+(t % S)*(k+m):Nat):Int) (k+m)).1:=by
   rw[r1,u0e i0,List.map_map]
   refine List.map_congr_left fun j hj=>?_
   show Q2 E (4+2*w+(i - 1 - w)*(k+m)+j)=Q2 E _
   rw[← ht,hb,htn,hq2]
   congr 1
   omega
  rw[hA]at hst hS
  rw[hS,hq2,hst,← hS,← hA]
  have hcnt:=v7a (v:=Q2 E) (sh:=Q2 D) (l:=Z9 w (k+m) i) (K:=z2x x.vol x.g x.area x.snap (k+m) E (t % S)) (fun j a ha=>by
   obtain⟨q1,q2⟩:=hmem j a ha
   have hlj:=hltS j q1
   have hd:Q2 D a=w0i x.vol x.g x.area 0 x.snap B k m (t % S) j:=by rw[q2];exact q1c (h.snap.there _ j hml q1)
   rw[x2b q1,← q2]
   constructor
   ·intro hl
    rcases hE a (by rw[q2];omega) with e|e
    ·exact e.symm
    ·rw[x2d e]at hl;simp at hl
   ·intro he
    rw[← he,hd,h.G.kept h.hB hml q1,y2n h.hB hml q1];decide) (k+m) (by rw[z1a,if_neg (by omega),if_neg (by omega)];exact k1v _)
  rw[List.take_of_length_le (by rw[z1a,if_neg (by omega),if_neg (by omega)];exact k1v _)]at hcnt
  rw[v9k]
  generalize hnb:(bdL (Q2 E) (Q2 D) (Z9 w (k+m) i)).length=nb at hcnt
  constructor
  ·intro hc
   have hc:nb≤m:=by
    rcases hc with hc|hc
    ·exact absurd need hc
    ·exact hc
   rw[k1s (show ¬ x5g (z2x x.vol x.g x.area x.snap (k+m) E (t % S)) (k+m)<k by omega)]
   show (V9 (fun j=>(Blk.mk 4 x.vol (((Z9 w (k+m) i).map fun a:Nat=>(a:Int)).getD j 0) 0 x.snap ((J3 B k m (t % S)).getD j [])).sld.1) _ _ _,(0:Int))=_
   rw[z1b (sh:=Q2 D)]
   intro j a ha
   obtain⟨q1,q2⟩:=hmem j a ha
   have ea:((Z9 w (k+m) i).map fun a:Nat=>(a:Int)).getD j 0=x.g.at_ x.area ((t % S:Nat):Int)+(j:Int):=by
    rw[k0v,k1z,ha,hat,q2]
    show ((_:Nat):Int)=_
    omega
   rw[ea,q2]
   exact(q1c (h.snap.there _ j hml q1)).symm
  ·intro _ hc
   rw[k1t (show x5g (z2x x.vol x.g x.area x.snap (k+m) E (t % S)) (k+m)<k by omega)]
   rfl
 ·rw[show ((((t / S:Nat):Int)) != (A:Int))=true by rw[bne_iff_ne];omega]
  refine⟨fun _=>?_,fun hn=>?_⟩
  ·show (V9 (fun j=>q4h x.vol _ _) _ _ _,(0:Int))=_
   rw[z1b (sh:=Q2 D)]
   intro j a ha
   obtain⟨q1,q2⟩:=x2e i0 ha
   have hlj:=hltS j q1
   have hxa:∀ q:Nat,q<2→q≠A→1 - x.area=(q:Int):=fun q h1 h2=>by omega
   have hb:=z1c (area:=1 - x.area) h.geo (A:=t / S) (hxa _ hq hq2)
   rw[← ht,htn]at q2
   have hq3:(t / S)*(S*(k+m))≤1*(S*(k+m)):=k2v _ (by omega)
   have hc:=q1c (h.other a (by rw[hb];omega) (by rw[hb];omega))
   have ea:((Z9 w (k+m) i).map fun a:Nat=>(a:Int)).getD j 0=(a:Int):=by rw[k0v,k1z,ha];rfl
   have ev:((Z9 w (k+m) i).map (Q2 E)).getD j []=Q2 E a:=by rw[k0v,k1z,ha];rfl
   rw[ea,ev,z8f (by have:=hE a (by omega);rw[hc]at this;exact this)]
   exact hc.symm
  ·rcases hn with ⟨_,hn,_⟩|⟨_,hn⟩
   ·omega
   ·rw[← ht,hA]at hn
    exact absurd (by omega) hq2
def q5x (w m i:Nat):Nat:=if i=0 then 3 else if i≤w then 1 else m
theorem v0u {g:GeoV}(hg:GeoN g w (k+m) S)(hm:g.m=m){i:Nat}(hi:i<1+w+2*S):g.bears i=(q5x w m i:Int):=by
 unfold GeoV.bears q5x
 have hw:=hg.hw
 rw[k1s (show ¬ (i:Int)<0 by omega),k1s (show ¬ (i:Int)≥g.groups by rw[hg.groups];omega)]
 by_cases h0:i=0
 ·rw[k1t (show (i:Int)=0 by omega),if_pos h0];rfl
 ·rw[k1s (show ¬ (i:Int)=0 by omega),if_neg h0]
  by_cases h1:i≤w
  ·rw[k1t (show (i:Int)≤g.w by omega),if_pos h1];rfl
  ·rw[k1s (show ¬ (i:Int)≤g.w by omega),if_neg h1];exact hm
theorem y8x (h:LaidP x next w k m S P B D){E:Dev}{b:Nat}(hC:CleanP E x.g.secs b)(hE:z6v D E x.g.secs){i:Nat}(i1:i<1+w+2*S) :
 ((¬ z2y x w S P i∨(bdL (Q2 E) (Q2 D) (Z9 w (k+m) i)).length≤q5x w m i)→q3t x next i ((Z9 w (k+m) i).map fun a:Nat=>(a:Int)) ((Z9 w (k+m) i).map (Q2 E))=((bdL (Q2 E) (Q2 D) (Z9 w (k+m) i)).map (y0p (Q2 D)),0)) ∧
 (z2y x w S P i→q5x w m i<(bdL (Q2 E) (Q2 D) (Z9 w (k+m) i)).length→q3t x next i ((Z9 w (k+m) i).map fun a:Nat=>(a:Int)) ((Z9 w (k+m) i).map (Q2 E))=([],22)):=by
 unfold q5x
 by_cases h0:i=0
 ·subst h0
  refine⟨fun _=>v6z h E,fun hn=>?_⟩
  rcases hn with ⟨hn,_⟩|⟨hn,_⟩ <;> omega
 ·rw[if_neg h0]
  by_cases h1:i≤w
  ·rw[if_pos h1];exact v0t h hE (by omega) h1
  ·rw[if_neg h1];exact w0p h hC hE (by omega) i1
end Go.Proofs.YtkjklhcfgbaceaaGreat.AL
namespace Go.Proofs.YtkjklhcfgbaceaaGreat.AL
open Go Go.Proofs Go.Proofs.YtkjklhcfgbaceaaGreat.AL.Crc
theorem x5h {x:Sup}{i:Int}(h:x.may=true)(h0:0≤i)(h4:i<4):(x.blk i).nums=true∧(x.blk i).body.length≤228:=by
 have hl:(U6 x.nine).length≤45:=x1p (x9j h)
 refine⟨?_,by show (U6 x.nine).length≤228;omega⟩
 unfold Sup.may Sup.words at h
 simp only[Bool.and_eq_true,List.all_cons,List.all_nil,decide_eq_true_eq]at h
 unfold Blk.nums Sup.blk
 simp only[List.all_cons,List.all_nil,Bool.and_eq_true,decide_eq_true_eq]
 have hw:X2 i=true:=by unfold X2;simp only[Bool.and_eq_true,decide_eq_true_eq];omega
 exact⟨by decide,h.1.1.1.1.1.1.1,hw,h.1.1.1.1.1.1.2.2.1,h.1.1.1.1.1.1.2.1,trivial⟩
theorem z5z {x:Sup}{i:Int}(h:x.may=true)(h0:0≤i)(h4:i<4):x.sector i=(J5 (x.blk i).all,0)∧W9 (J5 (x.blk i).all)=(x.blk i,0):=by
 obtain⟨hn,hl⟩:=x5h h h0 h4
 refine⟨?_,z5q hn hl⟩
 unfold Sup.sector
 rw[h,k1s (show ¬ i<0 by omega),k1s (show ¬ i≥4 by omega)]
 show (x.blk i).sld=_
 unfold Blk.sld
 rw[hn,k1s (show ¬ (x.blk i).body.length > 228 by omega)]
def OpsR (D E:Dev)(c:Nat):Prop:=∃ (n:Nat) (q:Int),n≤c∧E.ops=D.ops+n+q*18446744073709551616
theorem OpsR.refl (D:Dev)(c:Nat):OpsR D D c:=⟨0,0,Nat.zero_le _,by omega⟩
theorem OpsR.same {D E:Dev}(h:E.ops=D.ops)(c:Nat):OpsR D E c:=⟨0,0,Nat.zero_le _,by omega⟩
theorem OpsR.trans {D E F:Dev}{c d:Nat}(h:OpsR D E c)(h2:OpsR E F d):OpsR D F (c+d):=by
 obtain⟨n,q,h1,h3⟩:=h
 obtain⟨n2,q2,h4,h5⟩:=h2
 exact⟨n+n2,q+q2,by omega,by omega⟩
theorem OpsR.mono {D E:Dev}{c d:Nat}(h:OpsR D E c)(hd:c≤d):OpsR D E d:=by
 obtain⟨n,q,h1,h3⟩:=h
 exact⟨n,q,by omega,h3⟩
theorem OpsR.diff {D E:Dev}{c:Nat}(h:OpsR D E c)(hc:c≤1000000):0≤IntKind.i64.wrap (E.ops - D.ops)∧IntKind.i64.wrap (E.ops - D.ops)≤c:=by
 obtain⟨n,q,h1,h3⟩:=h
 rw[h3,IntKind.wrap_i64]
 omega
theorem x2f (D:Dev):OpsR D D.count 1:=by
 show ∃ (n:Nat) (q:Int),n≤1∧IntKind.i64.wrap (D.ops+1)=_
 rw[IntKind.wrap_i64]
 refine⟨1,((D.ops+1+9223372036854775808) % 18446744073709551616 - 9223372036854775808 - (D.ops+1)) / 18446744073709551616,k1v _,?_⟩
 omega
theorem w0q (D:Dev)(a:Int):OpsR D (D.read a).2 1:=by
 unfold Dev.read
 split
 ·exact .refl D 1
 ·split
  ·exact .refl D 1
  ·exact x2f D
theorem v9m (D:Dev)(a:Int)(s:x9):(D.put a s).ops=D.ops:=by
 unfold Dev.put
 split
 ·rfl
 ·split
  ·rfl
  ·split <;> rfl
theorem v0v (D:Dev)(a:Int)(s:x9):OpsR D (D.write a s).2 1:=by
 unfold Dev.write
 split
 ·exact .refl D 1
 ·split
  ·exact .refl D 1
  ·split
   ·exact .refl D 1
   ·split
    ·exact .same rfl 1
    ·exact OpsR.trans (c:=0) (.same rfl 0) ((x2f D.lives).trans (d:=0) (.same (v9m _ _ _) 0))
theorem v0w (D:Dev):OpsR D D.flush.2 0:=by
 unfold Dev.flush
 split
 ·exact .refl D 0
 ·split
  ·exact .same rfl 0
  ·exact .same rfl 0
theorem w0r (D:Dev)(a:Int)(s:x9):OpsR D (D.once a s).2 2:=by
 have h1:=v0v D a s
 have h2:=h1.trans (v0w (D.write a s).2)
 unfold Dev.once
 split
 ·exact h1.mono (by omega)
 ·split
  ·exact h2.mono (by omega)
  ·have h3:=h2.trans (w0q (D.write a s).2.flush.2 a)
   unfold Dev.hhas
   split
   ·exact h3
   ·exact h3
theorem y3g {N:Nat}:∀ (ps:List Put9) {D:Dev} {b:Nat} (m:Int),(∀ p∈ps,x9n N p)→CleanP D N b →
 ∃ E m',q4g z3b ps D m=(0,(E,m'))∧CleanP E N (b+ps.length)∧E.cells=q2h ps D.cells∧OpsR D E (2*ps.length)
 |[],D,b,m,_,h=>⟨D,m,rfl,h,rfl,.refl D _⟩
 |p :: r,D,b,m,hp,h=>by
  obtain⟨h0,h1,h2⟩:=hp p (by simp)
  have hk:((p.at_.toNat:Nat):Int)=p.at_:=by omega
  obtain⟨E,g1,g2,g3⟩:=z4u h (k:=p.at_.toNat) (by omega) h2
  rw[hk]at g1
  have ho:=w0r D p.at_ p.s
  rw[g1]at ho
  have e1:D.one p.at_ p.s=(0,E):=by
   show Dev.tryK 4 D p.at_ p.s=_
   unfold Dev.tryK
   rw[g1];rfl
  have eg:z3b D m p.at_ p.s=(0,(E,y3z 0 m)):=by unfold z3b;rw[e1]
  obtain⟨F,m',k1,k2,k3,k4⟩:=y3g r (y3z 0 m) (fun q hq=>hp q (by simp[hq])) g2
  refine⟨F,m',?_,by rw[List.length_cons,show b+(r.length+1)=b+1+r.length by omega];exact k2,by rw[k3,g3];rfl,?_⟩
  ·rw[q8q,eg];exact k1
  ·rw[List.length_cons,show 2*(r.length+1)=2+2*r.length by omega]
   exact OpsR.trans ho k4
theorem w4p {N:Nat}(ps:List Put9){D:Dev}{b:Nat}(hp:∀ p∈ps,x9n N p)(h:CleanP D N b):∃ E,D.all9 ps=(0,E)∧CleanP E N (b+ps.length)∧E.cells=q2h ps D.cells∧OpsR D E (2*ps.length):=by
 obtain⟨E,m',h1,h2,h3,h4⟩:=y3g ps 0 hp h
 exact⟨E,by unfold Dev.all9;rw[h1],h2,h3,h4⟩
theorem u3g {D:Dev}{N b k:Nat}(h:LiveP D N b)(hk:k<N):(D.read k).1.1=Q2 D k∧(D.read k).2=D.count:=by
 have e:D.read k=(((D.readAt k).2,(D.readAt k).1),D.count):=by unfold Dev.read;rw[h.dead,x9m h.len hk]
 refine⟨?_,by rw[e]⟩
 rw[e]
 show (D.readAt k).2=_
 unfold Dev.readAt Q2
 rw[h.waits,k0u]
 show (match D.cells[k]? with|some c=>(match c.lost with|true=>((20,[]):Int × x9)|false=>(0,c.s))|none=>((20,[]):Int × x9)).2=_
 cases D.cells[k]? with
 |none=>rfl
 |some c=>
  show (match c.lost with|true=>((20,[]):Int × x9)|false=>((0,c.s):Int × x9)).2=match c.lost with|true=>[]|false=>c.s
  cases c.lost <;> rfl
theorem w0s {D:Dev}{N b:Nat}(h:LiveP D N b)(l:List Nat)(hl:∀ a∈l,a<N):∀ k,k≤l.length →
 (D.readsL (l.map fun a:Nat=>(a:Int)) k).1=(l.take k).map (Q2 D)∧LiveP (D.readsL (l.map fun a:Nat=>(a:Int)) k).2 N b∧(D.readsL (l.map fun a:Nat=>(a:Int)) k).2.cells=D.cells∧(D.readsL (l.map fun a:Nat=>(a:Int)) k).2.armed=D.armed∧OpsR D (D.readsL (l.map fun a:Nat=>(a:Int)) k).2 k
 |0,_=>⟨rfl,h,rfl,rfl,.refl D 0⟩
 |k+1,hk=>by
  obtain⟨h1,h2,h3,h4,h5⟩:=w0s h l hl k (by omega)
  have hx:=k0w (show k<l.length by omega)
  have hm:=hl _ (k1w (show k<l.length by omega))
  generalize l[k]=a at hx hm
  have e2:(l.map fun a:Nat=>(a:Int)).getD k 0=a:=by rw[k0v,k1z,hx];rfl
  show ((D.readsL (l.map fun a:Nat=>(a:Int)) k).1++[((D.readsL (l.map fun a:Nat=>(a:Int)) k).2.read ((l.map fun a:Nat=>(a:Int)).getD k 0)).1.1]=_)∧LiveP ((D.readsL (l.map fun a:Nat=>(a:Int)) k).2.read ((l.map fun a:Nat=>(a:Int)).getD k 0)).2 N b∧((D.readsL (l.map fun a:Nat=>(a:Int)) k).2.read ((l.map fun a:Nat=>(a:Int)).getD k 0)).2.cells=D.cells∧((D.readsL (l.map fun a:Nat=>(a:Int)) k).2.read ((l.map fun a:Nat=>(a:Int)).getD k 0)).2.armed=D.armed∧OpsR D ((D.readsL (l.map fun a:Nat=>(a:Int)) k).2.read ((l.map fun a:Nat=>(a:Int)).getD k 0)).2 (k+1)
  rw[e2]
  generalize D.readsL (l.map fun a:Nat=>(a:Int)) k=Y at h1 h2 h3 h4 h5
  obtain⟨T,E⟩:=Y
  have h1:T=(l.take k).map (Q2 D):=h1
  have h2:LiveP E N b:=h2
  obtain⟨r1,r2⟩:=u3g h2 hm
  show T++[(E.read a).1.1]=_∧LiveP (E.read a).2 N b∧(E.read a).2.cells=D.cells∧(E.read a).2.armed=D.armed∧OpsR D (E.read a).2 (k+1)
  refine⟨?_,by rw[r2];exact⟨h2.ok.count,h2.dead,h2.waits,h2.len,h2.well⟩,by rw[r2];exact h3,by rw[r2];exact h4,OpsR.trans h5 (w0q E a)⟩
  rw[r1,h1,k2t,hx,List.map_append]
  have:Q2 E a=Q2 D a:=by unfold Q2;rw[show E.cells=D.cells from h3]
  rw[this];rfl
theorem LiveP.clean {D:Dev}{N b:Nat}(h:LiveP D N b)(ha:D.armed=false):CleanP D N b:=⟨h.ok,h.dead,ha,h.waits,h.len,h.well⟩
variable {x:Sup} {next:Int} {w k m S:Nat} {P:List Pc} {B:x9} {D:Dev}
theorem LaidP.fin (h:LaidP x next w k m S P B D){a:Nat}(ha:a<x.g.secs):∃ s,D.cells[a]?=some (q7q s)∧q3g s=true∧s.length=256:=by
 obtain⟨⟨st0,st1⟩,hg⟩:=h.start
 obtain⟨n1,n2,n3,n4,n5,n6⟩:=h.G.nat
 obtain⟨e1,e2,e3,e4,e5,e6,e7,e8⟩:=h.geo.le
 have hww:=h.hw
 have hsec:x.g.secs=4+2*w+2*(S*(k+m)):=by rw[e7,Nat.mul_assoc]
 by_cases c1:a<4
 ·refine⟨_,h.sup a c1,?_,?_⟩
  ·rw[(z5z h.xm (show (0:Int)≤(a:Int) by omega) (by omega)).1];exact q8i _
  ·rw[(z5z h.xm (show (0:Int)≤(a:Int) by omega) (by omega)).1]
   show (J5 _).length=256
   rw[q3p,q6m _ (x5h h.xm (show (0:Int)≤(a:Int) by omega) (by omega)).2]
 ·by_cases c2:a<4+2*w
  ·by_cases c3:a<4+w
   ·obtain⟨s,q1,q2,q3⟩:=h.log.whole hg h.vol (fun i p hi=>(h.pc i p hi).1) (k:=((a - 4:Nat):Int)) (m:=0) (by omega) (by omega) (.inl rfl)
    rw[y0i,show ((4:Int)+((a - 4:Nat):Int)).toNat=a by omega]at q1
    exact⟨s,q1,q2,q3⟩
   ·obtain⟨s,q1,q2,q3⟩:=h.log.whole hg h.vol (fun i p hi=>(h.pc i p hi).1) (k:=((a - 4 - w:Nat):Int)) (m:=1) (by omega) (by omega) (.inr rfl)
    rw[y0j,show ((4:Int)+x.g.w+((a - 4 - w:Nat):Int)).toNat=a by omega]at q1
    exact⟨s,q1,q2,q3⟩
  ·obtain⟨A,hA⟩:∃ A:Nat,x.area=A:=⟨x.area.toNat,by have:=h.G.a0;omega⟩
   have hA1:A≤1:=by have:=h.G.a1;omega
   have b1:=z1c h.geo hA
   have b2:=z1c (area:=1 - x.area) h.geo (A:=1 - A) (by omega)
   by_cases c3:x.g.base x.area≤a∧a<x.g.base x.area+S*(k+m)
   ·have hn:0<k+m:=by omega
    have e:=y2p (t:=a - x.g.base x.area) hn
    have hs:(a - x.g.base x.area) / (k+m)<S:=Nat.div_lt_of_lt_mul (by rw[Nat.mul_comm];omega)
    have hi:(a - x.g.base x.area) % (k+m)<k+m:=Nat.mod_lt _ hn
    have ht:=h.snap.there _ _ hs hi
    rw[← e,show x.g.base x.area+(a - x.g.base x.area)=a by omega]at ht
    obtain⟨q1,q2,_⟩:=h.G.sector h.hB hs hi
    exact⟨_,ht,q2,q1⟩
   ·have ht:=h.other a (by
     rcases (show A=0∨A=1 by omega) with rfl|rfl
     ·rw[b2];rw[b1]at c3;omega
     ·rw[b2];rw[b1]at c3;omega) (by
     rcases (show A=0∨A=1 by omega) with rfl|rfl
     ·rw[b2];rw[b1]at c3;omega
     ·rw[b2];rw[b1]at c3;omega)
    obtain⟨q1,q2⟩:=y8v h.vol (k:=a) (by omega)
    exact⟨_,ht,q1,q2⟩
theorem LaidP.len256 (h:LaidP x next w k m S P B D){a:Nat}(ha:a<x.g.secs):(Q2 D a).length=256:=by
 obtain⟨s,q1,_,q3⟩:=h.fin ha
 rw[q1c q1];exact q3
theorem u0f (h:LaidP x next w k m S P B D){E:Dev}(hl:E.cells.length=x.g.secs){i:Nat}(hi:i<1+w+2*S):z0y E x next i=match E.dead with|true=>21|false=>0:=by
 obtain⟨⟨st0,st1⟩,hg⟩:=h.start
 have hm:=h.most
 have hn:=h.nx
 have hf:=h.fit
 have hww:=h.hw
 unfold z0y
 rw[h.xm,k1s (show ¬ next<x.start by omega),k1s (show ¬ next > 4294967295 by omega),k1s (show ¬ next - x.start > x.g.w by omega),h.geo.sectors,hl,k1s (show ¬ ((x.g.secs:Nat):Int)<(x.g.secs:Int) by omega),k1s (show ¬ (i:Int)<0 by omega),h.geo.groups,k1s (show ¬ (i:Int)≥((1+w+2*S:Nat):Int) by omega)]
 rfl
theorem q9s (h:LaidP x next w k m S P B D){i:Nat}(hi:i<1+w+2*S){a:Nat}(ha:a∈Z9 w (k+m) i):a<x.g.secs∧y9w w (k+m) a=i:=by
 obtain⟨e1,e2,e3,e4,e5,e6,e7,e8⟩:=h.geo.le
 have:=(x1y (s:=2*S) (by omega) hi).mp ha
 rw[e7];exact this
theorem x5i (h:LaidP x next w k m S P B D){E:Dev}{b:Nat}(hC:LiveP E x.g.secs b){i:Nat}(hi:i<1+w+2*S) :
 ∃ F,E.want x next i=(q3t x next i ((Z9 w (k+m) i).map fun a:Nat=>(a:Int)) ((Z9 w (k+m) i).map (Q2 E)),F)∧LiveP F x.g.secs b∧F.cells=E.cells∧F.armed=E.armed∧OpsR E F (Z9 w (k+m) i).length:=by
 have hm:=u0f h hC.len hi
 rw[hC.dead]at hm
 have hm:z0y E x next i=0:=hm
 obtain⟨r1,r2,r3,r4,r5⟩:=w0s hC (Z9 w (k+m) i) (fun a ha=>(q9s h hi ha).1) _ (k1v _)
 rw[List.take_length]at r1
 refine⟨_,?_,r2,r3,r4,r5⟩
 unfold Dev.want
 rw[hm,h.geo.memb i,k1x,r1]
 rfl
theorem u2f (h:LaidP x next w k m S P B D){i:Nat}(hi:i<1+w+2*S)(v:Nat→x9):∀ p∈(bdL v (Q2 D) (Z9 w (k+m) i)).map (y0p (Q2 D)),x9n x.g.secs p:=fun p hp=>by
 rw[List.mem_map]at hp
 obtain⟨a,ha,rfl⟩:=hp
 have hm:=(q9s h hi (List.mem_filter.mp ha).1).1
 exact⟨by show (0:Int)≤(a:Int);omega,by show (a:Int)<_;omega,h.len256 hm⟩
theorem y8y (sh:Nat→x9):∀ (l:List Nat) (cs:List Cell),(∀ a∈l,a<cs.length)→∀ a,(q2h (l.map (y0p sh)) cs)[a]?=if a∈l then some (q7q (sh a)) else cs[a]?
 |[],cs,_,a=>by rw[if_neg (by simp)];rfl
 |b :: r,cs,hl,a=>by
  show (q2h (r.map (y0p sh)) (cs.set ((b:Nat):Int).toNat (q7q (sh b))))[a]?=_
  rw[k0u,y8y sh r _ (fun c hc=>by rw[List.length_set];exact hl c (by simp[hc])) a]
  by_cases e:a∈r
  ·rw[if_pos e,if_pos (List.mem_cons_of_mem _ e)]
  ·rw[if_neg e,List.getElem?_set]
   by_cases e2:b=a
   ·subst e2
    rw[if_pos rfl,if_pos (hl b (by simp)),if_pos (by simp)]
   ·rw[if_neg e2,if_neg (by simp only[List.mem_cons,not_or];exact⟨fun h=>e2 h.symm,e⟩)]
theorem w4q {sh:Nat→x9}{E F:Dev}{l:List Nat}(hF:F.cells=q2h (l.map (y0p sh)) E.cells)(hl:∀ a∈l,a<E.cells.length)(a:Nat):Q2 F a=if a∈l then sh a else Q2 E a:=by
 have:=y8y sh l E.cells hl a
 rw[← hF]at this
 by_cases e:a∈l
 ·rw[if_pos e]at this ⊢
  exact q1c this
 ·rw[if_neg e]at this ⊢
  unfold Q2
  rw[this]
theorem v9n {E F:Dev}{D:Dev}{l:List Nat}(hF:F.cells=q2h ((bdL (Q2 E) (Q2 D) l).map (y0p (Q2 D))) E.cells)(hl:∀ a∈l,a<E.cells.length)(a:Nat):Q2 F a=if a∈l then Q2 D a else Q2 E a:=by
 rw[w4q hF (fun a ha=>hl a (List.mem_filter.mp ha).1) a]
 by_cases e:a∈l
 ·rw[if_pos e]
  by_cases e2:Q2 D a=Q2 E a
  ·have hm:¬ a∈bdL (Q2 E) (Q2 D) l:=fun hm=>by
    have:=(List.mem_filter.mp hm).2
    rw[e2,beq_self_eq_true]at this
    exact absurd this (by decide)
   rw[if_neg hm]
   exact e2.symm
  ·have hm:a∈bdL (Q2 E) (Q2 D) l:=List.mem_filter.mpr ⟨e,by rw[beq_eq_false_iff_ne.mpr e2];rfl⟩
   rw[if_pos hm]
 ·have hm:¬ a∈bdL (Q2 E) (Q2 D) l:=fun hm=>e (List.mem_filter.mp hm).1
  rw[if_neg e,if_neg hm]
theorem v7b (h:LaidP x next w k m S P B D){E:Dev}{b:Nat}(hC:CleanP E x.g.secs b)(hE:z6v D E x.g.secs){i:Nat}(hi:i<1+w+2*S)(hok:¬ z2y x w S P i∨(bdL (Q2 E) (Q2 D) (Z9 w (k+m) i)).length≤q5x w m i) :
 ∃ F,E.step x next i=(((((bdL (Q2 E) (Q2 D) (Z9 w (k+m) i)).length:Nat):Int),0),F)∧CleanP F x.g.secs (b+24)∧(∀ a,Q2 F a=if a∈Z9 w (k+m) i then Q2 D a else Q2 E a)∧OpsR E F (3*(Z9 w (k+m) i).length):=by
 obtain⟨R,w1,w2,w3,w4,w5⟩:=x5i h hC.live hi
 rw[(y8x h hC hE hi).1 hok]at w1
 have hR:=w2.clean (w4.trans hC.armed)
 obtain⟨F,f1,f2,f3,f4⟩:=w4p _ (u2f h hi (Q2 E)) hR
 have hle:=List.length_filter_le (fun a=>!(Q2 D a==Q2 E a)) (Z9 w (k+m) i)
 have hm24:(Z9 w (k+m) i).length≤24:=by
  obtain⟨e1,e2,e3,e4,e5,e6,e7,e8⟩:=h.geo.le
  rw[z1a]
  split
  ·omega
  ·split <;> omega
 have hle:(bdL (Q2 E) (Q2 D) (Z9 w (k+m) i)).length≤(Z9 w (k+m) i).length:=hle
 rw[k1x]at f2 f4
 refine⟨F,?_,f2.mono (by omega),?_,?_⟩
 ·unfold Dev.step
  rw[w1]
  show (match (R.all9 _).1 != 0 with|true=>_|false=>_)=_
  rw[f1,k1x];rfl
 ·rw[w3]at f3
  exact v9n f3 (fun a ha=>by rw[hC.len];exact(q9s h hi ha).1)
 ·exact(w5.trans f4).mono (by omega)
theorem v9p (h:LaidP x next w k m S P B D){E:Dev}{b:Nat}(hC:CleanP E x.g.secs b)(hE:z6v D E x.g.secs){i:Nat}(hi:i<1+w+2*S)(hn:z2y x w S P i)(hok:q5x w m i<(bdL (Q2 E) (Q2 D) (Z9 w (k+m) i)).length) :
 ∃ F,E.step x next i=((0,22),F)∧CleanP F x.g.secs b∧F.cells=E.cells∧OpsR E F (Z9 w (k+m) i).length:=by
 obtain⟨R,w1,w2,w3,w4,w5⟩:=x5i h hC.live hi
 rw[(y8x h hC hE hi).2 hn hok]at w1
 refine⟨R,?_,w2.clean (w4.trans hC.armed),w3,w5⟩
 unfold Dev.step
 rw[w1];rfl
end Go.Proofs.YtkjklhcfgbaceaaGreat.AL
namespace Go.Proofs.YtkjklhcfgbaceaaGreat.AL
open Go Go.Proofs Go.Proofs.YtkjklhcfgbaceaaGreat.AL.Crc
theorem v0x {D:Dev}{N b:Nat}(h:CleanP D N b)(f:Flt)(hk:f.kind<4):CleanP (D.fault f).2 N (b+1):=by
 by_cases hm:D.may f=0
 ·obtain⟨q1,q2,q3,_⟩:=w2u hm
  have hr:0≤f.at_∧f.at_<(N:Int):=by
   unfold Dev.has at q1
   rw[k1u,decide_eq_true_eq,decide_eq_true_eq,h.len]at q1
   exact q1
  by_cases k1:f.kind=1
  ·obtain⟨E,e1,e2,_⟩:=v6w h hr.1 hr.2 (by omega) (by omega) (q3 k1).1 (q3 k1).2
   rw[e1];exact e2
  ·have e:D.fault f=D.fault { f with off:=0 }:=by
    have em:D.may { f with off:=0 }=D.may f:=by
     unfold Dev.may
     simp only[show (f.kind==1)=false from beq_eq_false_iff_ne.mpr k1,Bool.false_and]
    have eh:D.hurt { f with off:=0 }=D.hurt f:=by
     unfold Dev.hurt
     simp only[if_neg k1]
    unfold Dev.fault
    rw[em,eh]
   rw[e]
   obtain⟨E,e1,e2,_⟩:=v6w (f:={ f with off:=0 }) h hr.1 hr.2 (by show 1≤f.kind;omega) (by show f.kind≤3;omega) (Int.le_refl 0) (by show (0:Int)<256;decide)
   rw[e1];exact e2
 ·have e:D.fault f=(D.may f,D):=by
   unfold Dev.fault
   rw[show (D.may f==0)=false from beq_eq_false_iff_ne.mpr hm]
  rw[e]
  exact h.mono (by omega)
theorem x2g {D:Dev}{N b:Nat}(h:CleanP D N b)(l:List Flt):∀ k,CleanP (D.spoil l k) N (b+k)
 |0=>h
 |k+1=>by
  have ih:=x2g h l k
  unfold Dev.spoil
  split
  ·split
   ·rename_i hk
    exact v0x ih _ (k0z hk)
   ·exact ih.mono (by omega)
  ·exact ih.mono (by omega)
theorem v7c {v v' sh:Nat→x9}:∀ {l:List Nat},(∀ c∈l,v' c=v c∨v' c=sh c)→(bdL v' sh l).length≤(bdL v sh l).length
 |[],_=>Nat.zero_le _
 |c :: r,h=>by
  have ih:=v7c (sh:=sh) fun c hc=>h c (List.mem_cons_of_mem _ hc)
  have e1:=z2k v' sh [c] r
  have e2:=z2k v sh [c] r
  rw[List.singleton_append]at e1 e2
  rw[e1,e2,k1y,k1y,q6n,q6n]
  rcases h c (by simp) with e|e
  ·rw[e];omega
  ·rw[e,beq_self_eq_true]
   show 0+_≤_
   omega
theorem y4s {v v' sh:Nat→x9}{l:List Nat}(h:∀ c∈l,v' c=v c):bdL v' sh l=bdL v sh l:=by
 unfold bdL
 exact List.filter_congr fun c hc=>by rw[h c hc]
theorem w6t {v sh:Nat→x9}{l:List Nat}(h:∀ c∈l,v c=sh c):bdL v sh l=[]:=by
 unfold bdL
 rw[List.filter_eq_nil_iff]
 intro c hc
 rw[h c hc,beq_self_eq_true];exact Bool.false_ne_true
def y8z (v sh:Nat→x9)(w n:Nat):Nat→List Nat
 |0=>[]
 |j+1=>y8z v sh w n j++bdL v sh (Z9 w n j)
def y9x (v sh:Nat→x9)(w n j:Nat):Nat:=(y8z v sh w n j).length
theorem x2h (v sh:Nat→x9)(w n j:Nat):y9x v sh w n (j+1)=y9x v sh w n j+(bdL v sh (Z9 w n j)).length:=k1y
theorem w0t {v v' sh:Nat→x9}{w n i0:Nat}(h0:(bdL v' sh (Z9 w n i0)).length=0):∀ j,(∀ i,i<j→i≠i0→(bdL v' sh (Z9 w n i)).length=(bdL v sh (Z9 w n i)).length)→y9x v' sh w n j+(if i0<j then (bdL v sh (Z9 w n i0)).length else 0)=y9x v sh w n j
 |0,_=>rfl
 |j+1,h=>by
  have ih:=w0t h0 j fun i hi=>h i (by omega)
  rw[x2h,x2h]
  by_cases e:j=i0
  ·subst e
   rw[if_neg (by omega)]at ih
   rw[if_pos (by omega),h0];omega
  ·have hj:=h j (by omega) e
   by_cases e2:i0<j
   ·rw[if_pos e2]at ih;rw[if_pos (by omega)];omega
   ·rw[if_neg e2]at ih;rw[if_neg (by omega)];omega
variable {x:Sup} {next:Int} {w k m S:Nat} {P:List Pc} {B:x9} {D:Dev}
structure BornP (x:Sup) (w k m S:Nat) (D E:Dev) (b:Nat):Prop where
 clean:CleanP E x.g.secs b
 near:z6v D E x.g.secs
 bear:∀ i,i<1+w+2*S→(bdL (Q2 E) (Q2 D) (Z9 w (k+m) i)).length≤q5x w m i
theorem BornP.mono {E:Dev}{b c:Nat}(h:BornP x w k m S D E b)(hc:b≤c):BornP x w k m S D E c:=⟨h.clean.mono hc,h.near,h.bear⟩
theorem BornP.of {E F:Dev}{b c:Nat}(h:BornP x w k m S D E b)(hF:CleanP F x.g.secs c)(hv:∀ a,a<x.g.secs→Q2 F a=Q2 E a∨Q2 F a=Q2 D a)(hg:∀ i a,i<1+w+2*S→a∈Z9 w (k+m) i→a<x.g.secs):BornP x w k m S D F c:=
 ⟨hF,fun a ha=>by
  rcases hv a ha with e|e
  ·rw[e];exact h.near a ha
  ·exact .inl e,fun i hi=>Nat.le_trans (v7c fun c hc=>hv c (hg i c hi hc)) (h.bear i hi)⟩
theorem LaidP.hg (h:LaidP x next w k m S P B D):∀ i a,i<1+w+2*S→a∈Z9 w (k+m) i→a<x.g.secs:=fun _ _ hi ha=>(q9s h hi ha).1
theorem v0y (h:LaidP x next w k m S P B D){E F:Dev}{i:Nat}(hi:i<1+w+2*S)(hv:∀ a,Q2 F a=if a∈Z9 w (k+m) i then Q2 D a else Q2 E a):(bdL (Q2 F) (Q2 D) (Z9 w (k+m) i)).length=0∧∀ j,j<1+w+2*S→j≠i→bdL (Q2 F) (Q2 D) (Z9 w (k+m) j)=bdL (Q2 E) (Q2 D) (Z9 w (k+m) j):=by
 refine⟨by rw[w6t fun c hc=>by rw[hv c,if_pos hc]];rfl,fun j hj hji=>y4s fun c hc=>?_⟩
 rw[hv c,if_neg (fun hc2=>?_)]
 have q1:=(q9s h hi hc2).2
 have q2:=(q9s h hj hc).2
 omega
theorem v0z (h:LaidP x next w k m S P B D){E:Dev}{b:Nat}(hB:BornP x w k m S D E b){i:Nat}(hi:i<1+w+2*S) :
 ∃ F,E.step x next i=(((((bdL (Q2 E) (Q2 D) (Z9 w (k+m) i)).length:Nat):Int),0),F)∧BornP x w k m S D F (b+24)∧(bdL (Q2 F) (Q2 D) (Z9 w (k+m) i)).length=0∧(∀ j,j<1+w+2*S→j≠i→bdL (Q2 F) (Q2 D) (Z9 w (k+m) j)=bdL (Q2 E) (Q2 D) (Z9 w (k+m) j)) ∧
 y9x (Q2 F) (Q2 D) w (k+m) (1+w+2*S)+(bdL (Q2 E) (Q2 D) (Z9 w (k+m) i)).length=y9x (Q2 E) (Q2 D) w (k+m) (1+w+2*S):=by
 obtain⟨F,f1,f2,f3,f4⟩:=v7b h hB.clean hB.near hi (.inr (hB.bear i hi))
 obtain⟨g1,g2⟩:=v0y h hi f3
 have ht:=w0t (v:=Q2 E) (v':=Q2 F) g1 (1+w+2*S) fun j hj hji=>by rw[g2 j hj hji]
 rw[if_pos hi]at ht
 exact⟨F,f1,hB.of f2 (fun a ha=>by rw[f3 a];split;exact .inr rfl;exact .inl rfl) h.hg,g1,g2,ht⟩
theorem w6u (h:LaidP x next w k m S P B D){E:Dev}{b:Nat}(hC:CleanP E x.g.secs b)(hE:z6v D E x.g.secs)(hok:∀ i,i<1+w+2*S→(bdL (Q2 E) (Q2 D) (Z9 w (k+m) i)).length≤q5x w m i):∀ j,j≤1+w+2*S →
 (E.hurtG x next j).1=(y8z (Q2 E) (Q2 D) w (k+m) j).map (fun a:Nat=>(a:Int))∧CleanP (E.hurtG x next j).2 x.g.secs b∧(E.hurtG x next j).2.cells=E.cells
 |0,_=>⟨rfl,hC,rfl⟩
 |j+1,hj=>by
  obtain⟨h1,h2,h3⟩:=w6u h hC hE hok j (by omega)
  show (E.hurtG x next j).1++(cond (((E.hurtG x next j).2.want x next j).1.2 != 0) (q0n x.g j) []++((E.hurtG x next j).2.want x next j).1.1.map (·.at_))=_∧CleanP ((E.hurtG x next j).2.want x next j).2 x.g.secs b∧((E.hurtG x next j).2.want x next j).2.cells=E.cells
  generalize E.hurtG x next j=Y at h1 h2 h3
  obtain⟨T,G⟩:=Y
  have h1:T=(y8z (Q2 E) (Q2 D) w (k+m) j).map (fun a:Nat=>(a:Int)):=h1
  have h2:CleanP G x.g.secs b:=h2
  have h3:G.cells=E.cells:=h3
  have hc:∀ a,Q2 G a=Q2 E a:=fun a=>by unfold Q2;rw[h3]
  have hb:bdL (Q2 G) (Q2 D) (Z9 w (k+m) j)=bdL (Q2 E) (Q2 D) (Z9 w (k+m) j):=y4s fun c _=>hc c
  obtain⟨R,w1,w2,w3,w4,_⟩:=x5i h h2.live (show j<1+w+2*S by omega)
  rw[(y8x h h2 (fun a ha=>by rw[hc a];exact hE a ha) (show j<1+w+2*S by omega)).1 (.inr (by rw[hb];exact hok j (by omega))),hb]at w1
  show T++(cond ((G.want x next j).1.2 != 0) (q0n x.g j) []++(G.want x next j).1.1.map (·.at_))=_∧CleanP (G.want x next j).2 x.g.secs b∧(G.want x next j).2.cells=E.cells
  rw[w1]
  refine⟨?_,w2.clean (w4.trans h2.armed),w3.trans h3⟩
  show T++([]++((bdL (Q2 E) (Q2 D) (Z9 w (k+m) j)).map (y0p (Q2 D))).map (·.at_))=(y8z (Q2 E) (Q2 D) w (k+m) j++bdL (Q2 E) (Q2 D) (Z9 w (k+m) j)).map _
  rw[h1,List.nil_append,List.map_append,List.map_map];rfl
theorem w6v (h:LaidP x next w k m S P B D){E:Dev}{b:Nat}(hB:BornP x w k m S D E b) :
 ∃ F,E.hurts x next=((q4y ((y8z (Q2 E) (Q2 D) w (k+m) (1+w+2*S)).map (fun a:Nat=>(a:Int))),0),F)∧BornP x w k m S D F b∧F.cells=E.cells:=by
 obtain⟨h1,h2,h3⟩:=w6u h hB.clean hB.near hB.bear _ (k1v _)
 have hm:=u0f h hB.clean.len (show 0<1+w+2*S by omega)
 rw[hB.clean.dead]at hm
 have hm:z0y E x next 0=0:=hm
 have hc:∀ a,Q2 (E.hurtG x next (1+w+2*S)).2 a=Q2 E a:=fun a=>by unfold Q2;rw[h3]
 refine⟨_,?_,hB.of h2 (fun a _=>.inl (hc a)) h.hg,h3⟩
 unfold Dev.hurts
 rw[hm,h.geo.groups,k0u,h1]
 rfl
end Go.Proofs.YtkjklhcfgbaceaaGreat.AL
namespace Go.Proofs.YtkjklhcfgbaceaaGreat.AL
open Go Go.Proofs Go.Proofs.YtkjklhcfgbaceaaGreat.AL.Crc
theorem v7d {vol:Int}{g:GeoV}{epoch start next chain:Int}(h:y8f vol g epoch start next chain=true):(u2d vol g epoch start next chain).Ok:=by
 unfold y8f at h
 rw[k1u,k1u,k1u]at h
 obtain⟨hg,hw,h1,h2⟩:=h
 have hv:X2 vol=true:=by simp only[List.all_cons,Bool.and_eq_true]at hw;exact hw.1
 unfold X2 at hw
 simp only[List.all_cons,List.all_nil,Bool.and_true,Bool.and_eq_true,decide_eq_true_eq]at hw
 obtain⟨q1,q2,q3,q4,q5⟩:=hw
 have h1:=k0y ((Bool.not_eq_true' _).mp h1)
 exact⟨hg,hv,q2,⟨q4.1,Int.le_refl _⟩,⟨q3.1,by show start≤next;omega⟩,q4.2,q5⟩
end Go.Proofs.YtkjklhcfgbaceaaGreat.AL
namespace Go.Proofs.YtkjklhcfgbaceaaGreat.AL
open Go Go.Proofs
def Sup.put (x:Sup)(k:Nat):Put9:=⟨(k:Int),(x.sector k).1⟩
def Sup.puts (x:Sup):List Put9:=(List.range 4).map x.put
def Dev.install (D:Dev)(x:Sup):Int × Dev:=match x.may with
 |false=>(1,D)
 |true=>D.all9 x.puts
theorem v9q (l:List Put9)(p:Put9):px (l++[p])=px l++[p.pv]:=by simp[px]
theorem w4r {x:Sup}{k:Nat}(h:k<4):(x.sector k).2=match x.may with|true=>0|false=>1:=by
 cases hm:x.may with
 |true=>rw[(z5z hm (show (0:Int)≤(k:Int) by omega) (by omega)).1]
 |false=>unfold Sup.sector;rw[hm];rfl
theorem w0u (D:Dev)(x:Sup)(b:Nat)(hD:D.Ok b)(hb:b+16<1000000):AFm k0q 1 y9d [.ref 0 0,x.av] (Y3 D) (Q9 (i64 (D.install x).1) (Y3 (D.install x).2)):=by
 refine AFm.mono (R:=fun r H'=>∃ z,z=D.install x∧r=i64 z.1∧H'=Y3 z.2) ?_ (by rintro r H' ⟨b,rfl,rfl,rfl⟩;exact⟨rfl,rfl⟩)
 refine Z6 1 hT Tryz.func31 rfl rfl Tryz.ntmps31 rfl rfl ?_
 refine y6 hT ?_
 refine Z3 (Z4 3 x.pv rfl rfl) ?_
 refine u0 ⟨⟨31,[(0,.ref 0 0),(3,.p (.box x.pv)),(5,.msl 3 2 0 0)]⟩,Y3 D++[.row W0 2 []]⟩ True (y7 hT ?_) (fun _=>?_)
 ·exact⟨Wk.trans (z8 [0,1,2] [0,3,5] rfl) (Wk.trans (W8 W0 2) (Wk.trans (q3u 5 3 2 0 rfl) (z8 [0,1,2,3] [0,3,5] rfl))),trivial⟩
 refine u0 ⟨⟨31,[(0,.ref 0 0),(5,.p (.sl 2 (px x.puts)))]⟩,Y3 D⟩ (x.may=true) (y6 hT ?_) ?_
 ·refine x3 ?_
  refine Q3 (fun n s=>∃ (k:Nat) (j:Int) (L:List Put9),n+k=4∧j=k∧L=(List.range k).map x.put∧(0<k→x.may=true)∧s=⟨⟨31,[(0,.ref 0 0),(3,.p (.box x.pv)),(5,.msl 3 2 0 (px L).length),(9,i64 j)]⟩,Y3 D++[.row W0 2 (px L)]⟩) 4 ⟨⟨31,_⟩,_⟩ (z8 [0,1,2,3] [0,3,5,9] rfl) ⟨0,0,[],rfl,rfl,rfl,fun h=>absurd h (by omega),rfl⟩ ?_
  rintro n s ⟨k,j,L,hnk,rfl,hL,hm,rfl⟩
  have hLl:L.length=k:=by rw[hL];simp
  have hpl:=z8a L
  refine y6 hT ?_
  refine u6 (y8 (u9 (fun h=>?_) (fun h=>?_)))
  ·have hk:k<4:=by
    have:=k0z (show decide ((k:Int)<4)=true from h)
    omega
   have w:=y8e x k
   have herr:=w4r (x:=x) hk
   have eL:(List.range (k+1)).map x.put=L++[⟨(k:Int),(x.sector k).1⟩]:=by rw[List.range_succ,List.map_append,hL];rfl
   generalize x.sector (k:Int)=Y at w herr eL
   obtain⟨t,f⟩:=Y
   have w:AF k0q z9c [x.av,i64 k] [] (Q9 (.tup [bA t,i64 f]) []):=w
   have herr:f=match x.may with|true=>0|false=>1:=herr
   have eL:(List.range (k+1)).map x.put=L++[⟨(k:Int),t⟩]:=eL
   refine x7 ?_
   refine u0 ⟨⟨31,[(0,.ref 0 0),(3,.p (.box x.pv)),(5,.msl 3 2 0 (px (L++[⟨(k:Int),t⟩])).length),(9,i64 k)]⟩,Y3 D++[.row W0 2 (px (L++[⟨(k:Int),t⟩]))]⟩ (x.may=true) (x3 (y6 hT ?_)) ?_
   ·refine y6 hT ?_
    refine Q1 (Q5 w _ rfl rfl) ?_
    refine u0 ⟨⟨31,[(0,.ref 0 0),(3,.p (.box x.pv)),(5,.msl 3 2 0 (px L).length),(6,i64 k),(7,bA t),(9,i64 k)]⟩,Y3 D++[.row W0 2 (px L)]⟩ (x.may=true) (y6 hT ?_) ?_
    ·refine y8 (u9 (fun h=>?_) (fun h=>?_))
     ·have h:(f != 0)=true:=h
      have hz:(f,D)=D.install x:=by
       unfold Dev.install
       cases hmay:x.may with
       |true=>rw[hmay]at herr;rw[herr]at h;exact absurd h (by decide)
       |false=>rw[hmay]at herr;rw[herr]
      refine y6 hT ?_
      refine u5 ?_
      exact x8 [0,1,2] ⟨_,hz,rfl,rfl⟩ rfl
     ·have h:(f != 0)=false:=h
      have hmay:x.may=true:=by
       cases hmay:x.may with
       |true=>rfl
       |false=>rw[hmay]at herr;rw[herr]at h;exact absurd h (by decide)
      exact x7 ⟨z8 [0,1,2,3] [0,3,5,6,7,9] rfl,hmay⟩
    intro hmay
    refine X6 (fun k=>Nat.beq 4 k) hT ?_
    refine⟨⟨rfl,rfl⟩,?_⟩
    refine⟨rfl,⟨?_,?_⟩,?_⟩
    ·show ((px L).length+1)*32≤140737488355328
     omega
    ·show (px L).length+1≤140737488355328
     omega
    rw[v9q]
    exact⟨z8 [0,1,2,4] [0,3,5,9] rfl,hmay⟩
   ·intro hmay
    refine y7 hT ?_
    refine⟨n - 1,by omega,_,z8 [0,1,2,3] [0,3,5,9] rfl,k+1,IntKind.i64.wrap ((k:Int)+1),L++[⟨(k:Int),t⟩],by omega,?_,eL.symm,fun _=>hmay,rfl⟩
    rw[Q0 _ (by omega) (by omega)];rfl
  ·have hk:¬ (k:Int)<4:=k0y h
   have hk4:k=4:=by omega
   have hL4:L=x.puts:=by rw[hL,hk4];rfl
   refine Q7 ?_
   exact⟨Wk.trans (z1w 5 3 2 _ (by rw[hL4]) rfl rfl rfl) (z8 [0,1,2] [0,5] rfl),hm (by omega)⟩
 intro hmay
 have hz:D.install x=D.all9 x.puts:=by unfold Dev.install;rw[hmay]
 have w:=y0c D x.puts b hD (by show b+4*4<_;omega)
 rw[← hz]at w
 generalize D.install x=Z at w
 refine y6 hT ?_
 refine Q1 (Z7 [0,1,2] w rfl rfl rfl) ?_
 refine u5 ?_
 exact x8 [0,3,4] ⟨_,rfl,rfl,rfl⟩ rfl
end Go.Proofs.YtkjklhcfgbaceaaGreat.AL
