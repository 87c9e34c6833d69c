/- A part of the proof. -/
import Derived.Test.YtkjklhcfgbaceaaGreatScruhH
open Go.Proofs.Tryz renaming prog→k0q
open Option.some renaming inj→k0x
open List renaming getElem?_eq_getElem→k0w,getElem?_append_left→k0s,getElem?_append_right→k1q,getElem?_map→k1z,length_append→k1y,length_map→k1x,getElem_mem→k1w,length_replicate→k2z,getElem?_set_self→k2y,length_take→k2u,take_add_one→k2t,length_range→k3q,getElem?_set_ne→k3z
open Int renaming toNat_natCast→k0u,natCast_nonneg→k2w
open Nat renaming le_refl→k1v
open Bool renaming and_eq_true→k1u
set_option maxHeartbeats 2000000
set_option maxRecDepth 20000
namespace Go.Proofs.YtkjklhcfgbaceaaGreat.AL
open Go Go.Proofs
theorem y2s (l:List Int)(hl:l.length≤1000000):AF k0q x8b [.p (.sl 1 (ix l))] [] (Q8 (bl (l.all Y9)) []):=by
 refine Q7 hT Tryz.func64 rfl rfl Tryz.ntmps64 rfl ?_
 refine z7 hT ?_
 refine w9 ⟨⟨18,[]⟩,[]⟩ (l.all Y9=true) (z7 hT ?_) ?_
 ·refine y8 ?_
  refine Q2 (fun n s=>∃ (i:Nat) (j:Int),n+i=l.length∧j=i∧(l.take i).all Y9=true∧s=⟨⟨18,[(5,.p (.sl 1 (ix l))),(6,i64 l.length),(7,i64 j)]⟩,[]⟩) l.length ⟨⟨18,_⟩,[]⟩ (z6 [] [5,6,7] rfl) ⟨0,0,rfl,rfl,rfl,by rw[← ixl l];rfl⟩ ?_
  rintro n s ⟨i,j,hni,rfl,ht,rfl⟩
  refine z7 hT ?_
  refine u6 (y6 (u7 (fun h=>?_) (fun h=>?_)))
  ·have hi:i<l.length:=by
    have:=k0z (show decide ((i:Int)<(l.length:Int))=true from h)
    omega
   have hx:=k0w hi
   have hmem:=k1w hi
   have htk:l.take (i+1)=l.take i++[l[i]]:=by rw[k2t,hx];rfl
   generalize l[i]=c at hx htk hmem
   have hxp:(ix l)[((i:Nat):Int).toNat]?=some [.raw (.int .i64 c)]:=by rw[k0u];exact ixg hx
   have bad:Y9 c=false→l.all Y9=false:=fun h=>by
    rw[List.all_eq_false];exact⟨c,hmem,by rw[h];simp⟩
   refine x6 ?_
   refine w9 ⟨⟨18,[(5,.p (.sl 1 (ix l))),(6,i64 l.length),(7,i64 i)]⟩,[]⟩ (Y9 c=true) (y8 (z7 hT ?_)) ?_
   ·refine⟨k2w _,Z1 hxp ?_⟩
    refine z7 hT ?_
    refine u7 (fun h2=>?_) (fun h2=>?_)
    ·have h2:=k0z (show decide (c<0)=true from h2)
     refine y6 ?_
     refine z7 hT ?_
     refine u0 ?_
     rw[bad (by unfold Y9;rw[k1s (by omega)];rfl)]
     exact x7 [] ⟨rfl,rfl⟩ rfl
    ·have h2:=k0y (show decide (c<0)=false from h2)
     refine y6 (u7 (fun h3=>?_) (fun h3=>?_))
     ·have h3:=k0z (show decide (c > 4294967295)=true from h3)
      refine z7 hT ?_
      refine u0 ?_
      rw[bad (by unfold Y9;rw[k1s (show ¬ c≤4294967295 by omega),Bool.and_false])]
      exact x7 [] ⟨rfl,rfl⟩ rfl
     ·have h3:=k0y (show decide (c > 4294967295)=false from h3)
      exact x6 ⟨z6 [] [5,6,7] rfl,by unfold Y9;rw[k1t (show 0≤c by omega),k1t (show c≤4294967295 by omega)];rfl⟩
   ·intro hc
    refine z8 hT ?_
    refine⟨n - 1,by omega,_,z6 [] [5,6,7] rfl,i+1,IntKind.i64.wrap ((i:Int)+1),by omega,?_,?_,rfl⟩
    ·rw[Q0 _ (by omega) (by omega)];rfl
    ·rw[htk,List.all_append,ht];simp[hc]
  ·have hi:¬ (i:Int)<(l.length:Int):=k0y h
   have hil:i=l.length:=by omega
   subst hil
   rw[List.take_length]at ht
   refine Q6 ?_
   exact⟨z6 [] [] rfl,ht⟩
 ·intro h
  rw[h]
  refine z7 hT ?_
  refine u0 ?_
  exact x7 [] ⟨rfl,rfl⟩ rfl
end Go.Proofs.YtkjklhcfgbaceaaGreat.AL
/- The layer 07,plain: what was sealed is opened. -/
namespace Go.Proofs.YtkjklhcfgbaceaaGreat.AL
open Go Go.Proofs Go.Proofs.YtkjklhcfgbaceaaGreat.AL.Crc
theorem v6q (k n:Nat):leB (k+1) n=UInt8.ofNat n :: leB k (n / 256):=by
 unfold leB
 rw[List.range_succ_eq_map,List.map_cons,List.map_map]
 congr 1
 ·rw[Nat.pow_zero,Nat.div_one]
 ·apply List.map_congr_left
  intro j _
  show UInt8.ofNat (n / 256 ^ (j+1))=UInt8.ofNat (n / 256 / 256 ^ j)
  rw[Nat.pow_succ,Nat.mul_comm,Nat.div_div_eq_div_mul]
theorem q7v:∀ k n,z3b (leB k n)=n % 256 ^ k
 |0,n=>by show 0=n % 1;omega
 |k+1,n=>by
  rw[v6q,z3b,q7v k,UInt8.toNat_ofNat',show (256:Nat) ^ (k+1)=256*256 ^ k by rw[Nat.pow_succ,Nat.mul_comm],Nat.mod_mul,Nat.mul_comm]
  omega
theorem y0e {s p c r:x8}{a w n:Nat}(hs:s=p++(c++r))(hp:p.length=a)(hc:c.length=w)(hl:z3b c=n):q3s s a w=n:=by
 subst hs;subst hp;subst hc
 unfold q3s
 rw[List.drop_left,List.take_left];exact hl
theorem z5v {b:Blk}(hn:b.nums=true)(hb:b.body.length≤228):W0 (J5 b.all)=(b,0):=by
 obtain⟨k,v,a,e,q,hbk,k1,k4,hv,ha,he,hq⟩:=y7z hn
 generalize hbody:b.body=body at hbk hb
 have hall:=q6q b (by rw[hbody];exact hb)
 have hs:J5 b.all=[81,77,UInt8.ofNat k,0]++(leB 4 v++(leB 4 a++(leB 4 e++(leB 4 q++(leB 2 body.length++(leB 2 0++(body++(List.replicate (228 - body.length) 0++leB 4 (sum b.all).toNat)))))))):=by
  show b.all++leB 4 (sum b.all).toNat=_
  have:b.all=[81,77,UInt8.ofNat k,0]++(leB 4 v++(leB 4 a++(leB 4 e++(leB 4 q++(leB 2 body.length++(leB 2 0++(body++List.replicate (228 - body.length) 0))))))):=by
   unfold Blk.all Blk.head
   rw[hbk]
   simp only[x2c,x9k,Int.toNat_natCast,List.append_assoc,List.append_nil]
  generalize leB 4 (sum b.all).toNat=z
  rw[this]
  simp only[List.append_assoc]
 have hlen:=q3r b.all
 have hw:=q8n b.all
 have hseal:b.sld=(J5 b.all,0):=by unfold Blk.sld;rw[hn,k1s (by rw[hbody];omega)]
 generalize J5 b.all=s at hs hlen hw hseal
 have l4:=fun n=>q0h 4 n
 have n20:q3s s 20 2=body.length:=y0e (p:=[81,77,UInt8.ofNat k,0]++(leB 4 v++(leB 4 a++(leB 4 e++leB 4 q)))) (c:=leB 2 body.length) (by rw[hs];simp only[List.append_assoc];rfl) (by simp only[List.length_append,l4];rfl) (q0h _ _) (by rw[q7v];omega)
 have n4:q3s s 4 4=v:=y0e (p:=[81,77,UInt8.ofNat k,0]) (c:=leB 4 v) hs rfl (q0h _ _) (by rw[q7v];omega)
 have n8:q3s s 8 4=a:=y0e (p:=[81,77,UInt8.ofNat k,0]++leB 4 v) (c:=leB 4 a) (by rw[hs];simp only[List.append_assoc];rfl) (by simp only[List.length_append,l4];rfl) (q0h _ _) (by rw[q7v];omega)
 have n12:q3s s 12 4=e:=y0e (p:=[81,77,UInt8.ofNat k,0]++(leB 4 v++leB 4 a)) (c:=leB 4 e) (by rw[hs];simp only[List.append_assoc];rfl) (by simp only[List.length_append,l4];rfl) (q0h _ _) (by rw[q7v];omega)
 have n16:q3s s 16 4=q:=y0e (p:=[81,77,UInt8.ofNat k,0]++(leB 4 v++(leB 4 a++leB 4 e))) (c:=leB 4 q) (by rw[hs];simp only[List.append_assoc];rfl) (by simp only[List.length_append,l4];rfl) (q0h _ _) (by rw[q7v];omega)
 have hd:(s.drop 24).take body.length=body:=by
  have e1:s=([81,77,UInt8.ofNat k,0]++(leB 4 v++(leB 4 a++(leB 4 e++(leB 4 q++(leB 2 body.length++leB 2 0))))))++(body++(List.replicate (228 - body.length) 0++leB 4 (sum b.all).toNat)):=by rw[hs];simp only[List.append_assoc]
  have e2:([81,77,UInt8.ofNat k,0]++(leB 4 v++(leB 4 a++(leB 4 e++(leB 4 q++(leB 2 body.length++leB 2 0)))))).length=24:=by simp only[List.length_append,l4,q0h];rfl
  rw[e1,← e2,List.drop_left,List.take_left]
 have hk:s.getD 2 0=UInt8.ofNat k:=by rw[hs];rfl
 have hblk:y0d s=b:=by
  unfold y0d
  rw[n20,n4,n8,n12,n16,hd,hk,hbk,UInt8.toNat_ofNat']
  congr 1
  omega
 unfold W0
 rw[hw,n20,hblk,hseal,k1t (show s.length=256 by omega),k1s (show ¬ (body.length:Int) > 228 by omega)]
 show (match (0:Int) != 0||!(s==s) with|true=>(Blk.zero,7)|false=>(b,0):Blk × Int)=_
 rw[show (s==s)=true from beq_self_eq_true s]
 rfl
theorem w9y (s:x8):(W0 s).1.body.length≤s.length:=by
 unfold W0
 split
 ·exact Nat.zero_le _
 ·split
  ·exact Nat.zero_le _
  ·split
   ·exact Nat.zero_le _
   ·show ((s.drop 24).take _).length≤_
    rw[k2u,List.length_drop];omega
end Go.Proofs.YtkjklhcfgbaceaaGreat.AL
namespace Go.Proofs.YtkjklhcfgbaceaaGreat.AL
open Go Go.Proofs
structure Pc where
 seq:Int
 epoch:Int
 frm:Int
 chain:Int
 index:Int
 of_:Int
 b:x8
 deriving DecidableEq
abbrev Pc.pv (p:Pc):List PV:=[.raw (.int .i64 p.seq),.raw (.int .i64 p.epoch),.raw (.int .i64 p.frm),.raw (.int .i64 p.chain),.raw (.int .i64 p.index),.raw (.int .i64 p.of_),bP p.b]
abbrev Pc.cv (p:Pc):List AV:=[i64 p.seq,i64 p.epoch,i64 p.frm,i64 p.chain,i64 p.index,i64 p.of_,bA p.b]
abbrev Pc.av (p:Pc):AV:=.agg p.cv
def Pc.words (p:Pc):Bool:=[p.seq,p.epoch,p.frm,p.chain].all Y9
def Pc.may (p:Pc):Bool:=p.words&&decide (p.frm≤p.seq)&&decide (p.of_≥1)&&decide (p.of_≤64)&&decide (p.index≥0)&&decide (p.index<p.of_)&&decide (p.b.length≤200)
theorem v6r (p:Pc):AF k0q w3m [p.av] [] (Q8 (bl p.may) []):=by
 refine AF.mono (R:=fun r H'=>∃ b,b=p.may∧r=bl b∧H'=[]) ?_ (by rintro r H' ⟨b,rfl,rfl,rfl⟩;exact⟨rfl,rfl⟩)
 have hbl:=Z0 p.b
 refine Q7 hT Tryz.func132 rfl rfl Tryz.ntmps132 rfl ?_
 refine z7 hT ?_
 refine Z2 (Z3 0 p.pv rfl rfl) ?_
 refine Q3 (fun s=>∃ c,c=(p.words&&decide (p.frm≤p.seq))∧s=⟨⟨50,[(1,.p (.box p.pv)),(3,bl c)]⟩,[]⟩) (X5 (fun k=>Nat.beq 8 k) hT ?_) ?_
 ·refine⟨⟨rfl,rfl⟩,?_⟩
  refine Q1 (Q4 (y2s [p.seq,p.epoch,p.frm,p.chain] (by simp)) _ rfl rfl) ?_
  refine u7 (fun h=>?_) (fun h=>?_)
  ·have h:p.words=true:=h
   exact⟨_,z6 [] [1,3] rfl,_,by rw[h];rfl,rfl⟩
  ·have h:p.words=false:=h
   exact⟨_,z6 [] [1,3] rfl,_,by rw[h];rfl,rfl⟩
 rintro _ ⟨c,hc,rfl⟩
 have e:p.may=(c&&decide (p.of_≥1)&&decide (p.of_≤64)&&decide (p.index≥0)&&decide (p.index<p.of_)&&decide ((((bx p.b).length:Nat):Int)≤200)):=by unfold Pc.may;rw[hc,show decide ((((bx p.b).length:Nat):Int)≤200)=decide (p.b.length≤200) from decide_eq_decide.mpr (by omega)]
 refine z7 hT ?_
 refine u7 (fun h0=>?_) (fun h0=>?_)
 ·have h0:c=true:=h0
  refine u7 (fun h1=>?_) (fun h1=>?_)
  ·have h1:decide (p.of_≥1)=true:=h1
   refine u7 (fun h2=>?_) (fun h2=>?_)
   ·have h2:decide (p.of_≤64)=true:=h2
    refine u7 (fun h3=>?_) (fun h3=>?_)
    ·have h3:decide (p.index≥0)=true:=h3
     refine u7 (fun h4=>?_) (fun h4=>?_)
     ·have h4:decide (p.index<p.of_)=true:=h4
      refine u0 ?_
      exact x7 [] ⟨_,by rw[e,h0,h1,h2,h3,h4];rfl,rfl,rfl⟩ rfl
     ·have h4:decide (p.index<p.of_)=false:=h4
      refine u0 ?_
      exact x7 [] ⟨_,by rw[e,h0,h1,h2,h3,h4];rfl,rfl,rfl⟩ rfl
    ·have h3:decide (p.index≥0)=false:=h3
     refine u0 ?_
     exact x7 [] ⟨_,by rw[e,h0,h1,h2,h3];rfl,rfl,rfl⟩ rfl
   ·have h2:decide (p.of_≤64)=false:=h2
    refine u0 ?_
    exact x7 [] ⟨_,by rw[e,h0,h1,h2];rfl,rfl,rfl⟩ rfl
  ·have h1:decide (p.of_≥1)=false:=h1
   refine u0 ?_
   exact x7 [] ⟨_,by rw[e,h0,h1];rfl,rfl,rfl⟩ rfl
 ·have h0:c=false:=h0
  refine u0 ?_
  exact x7 [] ⟨_,by rw[e,h0];rfl,rfl,rfl⟩ rfl
theorem neI {y:Int}{K:Prop}(h:y≠0)(k:K):chk (decide (y≠0)) K:=by rw[k1t h];exact k
def pcB (p:Pc):x8:=q0f p.frm.toNat++(q0f p.chain.toNat++(q0f p.index.toNat++(q0f p.of_.toNat++z2c p.b)))
def q0j (g:GeoV)(m slot:Int):Int:=4+m*g.w+slot
def Pc.blk (p:Pc)(vol:Int)(g:GeoV)(m:Int):Blk:=⟨3,vol,q0j g m (p.seq.tmod g.w),p.epoch,p.seq,pcB p⟩
def Pc.sector (p:Pc)(vol:Int)(g:GeoV)(m:Int):x8 × Int:=match p.may&&(g.may&&(Y9 vol&&(!decide (m<0)&&!decide (m≥2)))) with
 |false=>([],1)
 |true=>(p.blk vol g m).sld
theorem Pc.of_may {p:Pc}(h:p.may=true):(0≤p.seq∧p.seq≤4294967295)∧(0≤p.epoch∧p.epoch≤4294967295)∧(0≤p.frm∧p.frm≤4294967295)∧(0≤p.chain∧p.chain≤4294967295)∧p.frm≤p.seq∧1≤p.of_∧p.of_≤64∧0≤p.index∧p.index<p.of_∧p.b.length≤200:=by
 unfold Pc.may Pc.words Y9 at h
 simp only[List.all_cons,List.all_nil,Bool.and_true,Bool.and_eq_true,decide_eq_true_eq]at h
 omega
theorem y4z {p:Pc}(h:p.may=true):(pcB p).length≤214:=by
 obtain⟨h1,h2,h3,h4,h5,h6,h7,h8,h9,h10⟩:=p.of_may h
 have a:=q5r 4 p.frm.toNat (by omega)
 have b:=q5r 4 p.chain.toNat (by omega)
 have c:=q5r 0 p.index.toNat (by omega)
 have d:=q5r 0 p.of_.toNat (by omega)
 have e:=q5r 1 p.b.length (by omega)
 unfold pcB z2c
 simp only[List.length_append]
 omega
theorem GeoV.of_may {g:GeoV}(h:g.may=true):8≤g.w∧g.w≤512∧1≤g.s∧g.s≤32∧1≤g.k∧g.k≤16∧1≤g.m∧g.m≤8:=by
 unfold GeoV.may at h
 rw[k1u]at h
 exact V6 h.1
theorem y2t (g:GeoV)(m slot:Int)(h1:0≤m*g.w)(h2:m*g.w≤1000000)(h3:0≤slot)(h4:slot≤1000000):AF k0q x8g [g.av,i64 m,i64 slot] [] (Q8 (i64 (q0j g m slot)) []):=by
 refine AF.mono (R:=fun r H'=>∃ z,z=q0j g m slot∧r=i64 z∧H'=[]) ?_ (by rintro r H' ⟨b,rfl,rfl,rfl⟩;exact⟨rfl,rfl⟩)
 refine Q7 hT Tryz.func119 rfl rfl Tryz.ntmps119 rfl ?_
 refine z7 hT ?_
 refine Z2 (Z3 0 g.pv rfl rfl) ?_
 refine z7 hT ?_
 refine u0 ?_
 refine x7 [] ⟨_,?_,rfl,rfl⟩ rfl
 rw[Q0 (m*g.w) (by omega) (by omega),Q0 (4+m*g.w) (by omega) (by omega),Q0 _ (by omega) (by omega)]
 rfl
theorem x5h:∀ k:Nat,k≤255→∀ i,i<k→(stT k).1[i]?=some (Gf.pw i)∧(stT k).1[i+255]?=some (Gf.pw i)
 |0,_,i,h=>by omega
 |k+1,hk,i,hi=>by
  obtain⟨l1,_⟩:=z2a k
  rw[stT]
  by_cases e:i=k
  ·subst e
   refine⟨?_,k2y (by rw[List.length_set,l1];omega)⟩
   rw[k3z (by omega),k2y (by rw[l1];omega)]
  ·obtain⟨h1,h2⟩:=x5h k (by omega) i (by omega)
   refine⟨?_,?_⟩
   ·rw[k3z (by omega),k3z (by omega)];exact h1
   ·rw[k3z (by omega),k3z (by omega)];exact h2
theorem w7g:∀ k:Nat,k≤255→∀ i,i<k→(stT k).2[(Gf.pw i).toNat]?=some (i:Int)
 |0,_,i,h=>by omega
 |k+1,hk,i,hi=>by
  obtain⟨_,l2⟩:=z2a k
  rw[stT]
  by_cases e:i=k
  ·subst e
   exact k2y (by rw[l2];exact(Gf.pw i).toNat_lt)
  ·rw[k3z]
   ·exact w7g k (by omega) i (by omega)
   ·intro h
    have h:=UInt8.toNat_inj.mp h
    have h1:=Gf.lg_pw (show k<255 by omega)
    rw[h,Gf.lg_pw (by omega)]at h1
    exact e h1
theorem v6s {n:Nat}(h:n<510):fP[n]?=some (u8 (Gf.pw n)):=by
 obtain⟨l1,l2⟩:=z2a 255
 unfold fP
 rw[List.append_assoc,k0s (by rw[k1x,l1];exact h),k1z]
 by_cases e:n<255
 ·rw[(x5h 255 (k1v _) n e).1];rfl
 ·have:=(x5h 255 (k1v _) (n - 255) (by omega)).2
  rw[show n - 255+255=n by omega]at this
  rw[this]
  have h2:=Gf.pw_add (n - 255)
  rw[show n - 255+255=n by omega]at h2
  rw[h2];rfl
theorem x5i {a:UInt8}(h:a≠0):fP[510+a.toNat]?=some (.raw (.int .i64 (Gf.lg a))):=by
 obtain⟨l1,l2⟩:=z2a 255
 obtain⟨h1,h2⟩:=Gf.lg_ok h
 have ha:=a.toNat_lt
 unfold fP
 rw[List.append_assoc,k1q (by rw[k1x,l1];omega),k1x,l1,Nat.add_sub_cancel_left,k0s (by rw[k1x,l2];omega),k1z]
 have:=w7g 255 (k1v _) (Gf.lg a) h1
 rw[h2]at this
 rw[this];rfl
theorem u0i:fP[766]?=some (.raw (.bool true)):=by
 obtain⟨l1,l2⟩:=z2a 255
 unfold fP
 rw[k1q (by rw[k1y,k1x,k1x,l1,l2];omega),k1y,k1x,k1x,l1,l2];rfl
theorem u4t {cs:List PV}{x:PV}(h:cs[0]?=some x):cs.take 1=[x]∧1≤cs.length:=by
 cases cs with
 |nil=>simp at h
 |cons y r=>
  obtain rfl:y=x:=by simpa using h
  exact⟨rfl,by simp⟩
theorem u4u {l:List PV}{n:Nat}{x:PV}(h:l[n]?=some x):(l.drop n)[0]?=some x:=by rw[List.getElem?_drop];exact h
theorem z5w {l:List PV}{n k m:Nat}{x:PV}(hm:m=n+k)(h:l[m]?=some x):(l.drop n).drop k=x :: l.drop (m+1):=by
 subst hm
 rw[List.drop_drop]
 obtain⟨h1,h2⟩:=List.getElem?_eq_some_iff.mp h
 rw[List.drop_eq_getElem_cons h1,h2]
abbrev q3x:AV:=.p (.box fP)
theorem x2d:AF k0q z9t [q3x] [] (Q8 q3x []):=by
 have h:=u0i
 unfold q3x
 generalize fP=F at h ⊢
 refine Q7 hT Tryz.func232 rfl rfl Tryz.ntmps232 rfl ?_
 refine z7 hT ?_
 refine u6 (z7 hT ?_)
 obtain⟨e1,e2⟩:=u4t (u4u h)
 conv=>whnf
 refine y5k (k1t e2) ?_
 rw[e1]
 refine y6 ?_
 refine x6 ?_
 refine z7 hT ?_
 refine u0 ?_
 exact x7 [] ⟨rfl,rfl⟩ rfl
theorem w4g (x:AV)(a b:UInt8):AF k0q y6y [x,.p (u8 a),.p (u8 b)] [] (Q8 (.p (u8 (a ^^^ b))) []):=by
 refine AF.mono (R:=fun r H'=>∃ z:Int,z=((a ^^^ b).toNat:Int)∧r=.p (.raw (.int .u8 z))∧H'=[]) ?_ (by rintro r H' ⟨z,rfl,rfl,rfl⟩;exact⟨rfl,rfl⟩)
 refine Q7 hT Tryz.func224 rfl rfl Tryz.ntmps224 rfl ?_
 refine z7 hT ?_
 refine z7 hT ?_
 refine u0 ?_
 exact x7 [] ⟨_,w3w a b,rfl,rfl⟩ rfl
theorem u8z {a:UInt8}(h:(((a.toNat:Nat):Int)==0)=true):a=0:=by
 rw[beq_iff_eq]at h
 exact UInt8.toNat_inj.mp (by show a.toNat=0;omega)
theorem u4v {a:UInt8}(h:(((a.toNat:Nat):Int)==0)=false):a≠0:=by
 rintro rfl
 exact absurd h (by decide)
theorem w4h (a b:UInt8):AF k0q y6z [q3x,.p (u8 a),.p (u8 b)] [] (Q8 (.p (u8 (Gf.mul a b))) []):=by
 refine AF.mono (R:=fun r H'=>∃ z,z=Gf.mul a b∧r=.p (u8 z)∧H'=[]) ?_ (by rintro r H' ⟨z,rfl,rfl,rfl⟩;exact⟨rfl,rfl⟩)
 have wt:=x2d
 have hexp:=@v6s
 have hla:=@x5i a
 have hlb:=@x5i b
 unfold q3x at wt ⊢
 generalize fP=F at hexp hla hlb wt ⊢
 refine Q7 hT Tryz.func227 rfl rfl Tryz.ntmps227 rfl ?_
 refine z7 hT ?_
 refine w9 ⟨⟨34,[(0,.p (.box F)),(1,.p (u8 a)),(2,.p (u8 b))]⟩,[]⟩ (a≠0∧b≠0) (z7 hT ?_) ?_
 ·refine u7 (fun h=>?_) (fun h=>?_)
  ·refine y6 ?_
   refine z7 hT ?_
   refine u0 ?_
   exact x7 [] ⟨0,by rw[u8z h];exact(Gf.zero_mul b).symm,rfl,rfl⟩ rfl
  have ha:=u4v h
  refine y6 (u7 (fun h=>?_) (fun h=>?_))
  ·refine z7 hT ?_
   refine u0 ?_
   exact x7 [] ⟨0,by rw[u8z h];exact(Gf.mul_zero a).symm,rfl,rfl⟩ rfl
  exact x6 ⟨z6 [] [0,1,2] rfl,ha,u4v h⟩
 rintro⟨ha,hb⟩
 obtain⟨a1,a2⟩:=Gf.lg_ok ha
 obtain⟨b1,b2⟩:=Gf.lg_ok hb
 have a3:=a.toNat_lt
 have b3:=b.toNat_lt
 have hm:Gf.mul a b=Gf.pw (Gf.lg a+Gf.lg b):=by
  unfold Gf.mul
  rw[show (a==0)=false from beq_eq_false_iff_ne.mpr ha,show (b==0)=false from beq_eq_false_iff_ne.mpr hb];rfl
 have hla:=hla ha
 have hlb:=hlb hb
 have hex:=hexp (n:=Gf.lg a+Gf.lg b) (by omega)
 rw[← hm]at hex
 generalize Gf.mul a b=m at hex
 generalize Gf.lg a=la at hla hex a1
 generalize Gf.lg b=lb at hlb hex b1
 have hw:IntKind.i64.wrap ((la:Int)+(lb:Int))=((la+lb:Nat):Int):=by rw[Q0 _ (by omega) (by omega)];omega
 refine z7 hT ?_
 refine Q1 (Q4 wt _ rfl rfl) ?_
 refine u6 ?_
 refine Q9 [] [] hT u5 (by rfl) ?_
 refine⟨⟨by omega,by show ((a.toNat:Nat):Int)<256;omega⟩,?_⟩
 rw[z5w (n:=510) (k:=((a.toNat:Nat):Int).toNat*1) (m:=510+a.toNat) (by omega) hla]
 refine⟨⟨by omega,by show ((b.toNat:Nat):Int)<256;omega⟩,?_⟩
 rw[z5w (n:=510) (k:=((b.toNat:Nat):Int).toNat*1) (m:=510+b.toNat) (by omega) hlb]
 refine⟨⟨by rw[hw];omega,by rw[hw];show ((la+lb:Nat):Int)<510;omega⟩,?_⟩
 rw[z5w (n:=0) (k:=(IntKind.i64.wrap ((la:Int)+(lb:Int))).toNat*1) (m:=la+lb) (by rw[hw];omega) hex]
 refine u0 ?_
 exact x7 [] ⟨m,rfl,rfl,rfl⟩ rfl
theorem y8b (a:UInt8)(ha:a≠0):AF k0q y6x [q3x,.p (u8 a)] [] (Q8 (.tup [.p (u8 (Gf.inv a)),i64 0]) []):=by
 have wd:AF k0q y7a [q3x,.p (u8 1),.p (u8 a)] [] (Q8 (.tup [.p (u8 (Gf.inv a)),i64 0]) []):=by
  refine AF.mono (R:=fun r H'=>∃ z,z=Gf.inv a∧r=.tup [.p (u8 z),i64 0]∧H'=[]) ?_ (by rintro r H' ⟨z,rfl,rfl,rfl⟩;exact⟨rfl,rfl⟩)
  have wt:=x2d
  obtain⟨a1,a2⟩:=Gf.lg_ok ha
  have hla:=x5i ha
  have hl1:=x5i (a:=1) (by decide)
  rw[show Gf.lg 1=0 from Gf.lg_pw (n:=0) (by decide)]at hl1
  have hex:=v6s (n:=255 - Gf.lg a) (by omega)
  have hm:Gf.inv a=Gf.pw (255 - Gf.lg a):=rfl
  have a3:=a.toNat_lt
  rw[← hm]at hex
  generalize Gf.inv a=m at hex
  generalize Gf.lg a=la at hla hex a1
  unfold q3x at wt ⊢
  generalize fP=F at hla hl1 hex wt ⊢
  have hw:IntKind.i64.wrap (IntKind.i64.wrap (((0:Nat):Int)+255) - (la:Int))=((255 - la:Nat):Int):=by rw[Q0 (((0:Nat):Int)+255) (by omega) (by omega),Q0 _ (by omega) (by omega)];omega
  refine Q7 hT Tryz.func228 rfl rfl Tryz.ntmps228 rfl ?_
  refine z7 hT ?_
  refine w9 ⟨⟨36,[(0,.p (.box F)),(1,.p (u8 1)),(2,.p (u8 a))]⟩,[]⟩ True (y8 (z7 hT ?_)) (fun _=>?_)
  ·refine y6 (u7 (fun h=>?_) (fun h=>?_))
   ·exact absurd (u8z h) ha
   ·refine z7 hT ?_
    refine y6 ?_
    exact x6 ⟨z6 [] [0,1,2] rfl,trivial⟩
  refine z7 hT ?_
  refine Q1 (Q4 wt _ rfl rfl) ?_
  refine u6 ?_
  refine Q9 [] [] hT u5 (by rfl) ?_
  refine⟨⟨by decide,by decide⟩,?_⟩
  rw[z5w (n:=510) (k:=(((1:UInt8).toNat:Nat):Int).toNat*1) (m:=510+1) (by decide) hl1]
  refine⟨⟨by omega,by show ((a.toNat:Nat):Int)<256;omega⟩,?_⟩
  rw[z5w (n:=510) (k:=((a.toNat:Nat):Int).toNat*1) (m:=510+a.toNat) (by omega) hla]
  refine⟨⟨by rw[hw];omega,by rw[hw];show ((255 - la:Nat):Int)<510;omega⟩,?_⟩
  rw[z5w (n:=0) (k:=(IntKind.i64.wrap (IntKind.i64.wrap (((0:Nat):Int)+255) - (la:Int))).toNat*1) (m:=255 - la) (by rw[hw];omega) hex]
  refine u0 ?_
  exact x7 [] ⟨m,rfl,rfl,rfl⟩ rfl
 generalize Gf.inv a=m at wd ⊢
 refine Q7 hT Tryz.func208 rfl rfl Tryz.ntmps208 rfl ?_
 refine z7 hT ?_
 refine z7 hT ?_
 refine Q1 (Q4 wd _ rfl rfl) ?_
 refine u0 ?_
 exact x7 [] ⟨rfl,rfl⟩ rfl
end Go.Proofs.YtkjklhcfgbaceaaGreat.AL
namespace Go.Proofs.YtkjklhcfgbaceaaGreat.AL
open Go Go.RowKit
theorem q0k {m:Nat}{s:St}(b:Nat){t:TypeId}{xs:List (List PV)}(ps:List PV)(hb:s.H[b]?=some (.row t 1 xs))(hx:xs=ps.map fun p=>[p])(hne:ps≠[]):Wk m s ⟨s.fr,s.H.set b (.cells t (ps.map .p))⟩:=fun N w I ι a hs hm=>by
 subst hx
 have hlive:live s.H b:=⟨_,hb,rfl⟩
 have hlv:∀ c,live (s.H.set b (.cells t (ps.map .p))) c→live s.H c:=fun c hc=>q2r hc hlive
 have hsim:SimH w I ι (s.H.set b (.cells t (ps.map .p))):=by
  refine⟨fun c k hc=>?_,fun c c' B hc hc'=>hs.H.inj c c' B (hlv c hc) (hlv c' hc'),hs.H.Ilt,fun c hc=>hs.H.dom c (by simpa using hc),hs.H.rng⟩
  by_cases e:c=b
  ·subst e
   rw[k2y (J6 hlive)]at hc
   obtain rfl:=k0x hc
   rcases hs.H.blk c _ hb with ⟨g1,g2⟩|⟨B,cs,g1,g2,g3,g4,g5,g6⟩
   ·exact absurd (List.map_eq_nil_iff.mp g1) hne
   ·refine⟨B,cs,g1,g2,g3,by simpa using g4,fun i u hu=>?_⟩
    rw[k1z]at hu
    cases hp:ps[i]? with
    |none=>rw[hp]at hu;cases hu
    |some p=>
     rw[hp]at hu
     obtain rfl:=k0x hu
     have:=(g6 i [p] (by rw[k1z,hp];rfl)).2 0 p rfl
     rw[Nat.mul_one,Nat.add_zero]at this
     exact .p this
  ·rw[k3z (by omega)]at hc
   exact hs.H.blk c k hc
 have hx:Ex m w I ι s.H w I ι (s.H.set b (.cells t (ps.map .p))):=⟨⟨rfl,rfl,rfl,k1v _,Shape.refl w,fun _ h=>h,fun _ _ _=>rfl,fun _ h=>.inl h,fun c B hc h=>.inr ⟨c,hlv c hc,h⟩⟩,fun _ _=>rfl,by simpa using hm⟩
 exact⟨I,ι,hs.turn ⟨hs.fr.1,hs.fr.2⟩ hsim hx,hx⟩
theorem q2m {m:Nat}{s:St}(b:Nat){t:TypeId}{l:List AV}(ps:List PV)(hb:s.H[b]?=some (.cells t l))(hx:l=ps.map .p)(hl:ps.length≤140737488355328):Wk m s ⟨s.fr,s.H.set b (.row t 1 (ps.map fun p=>[p]))⟩:=fun N w I ι a hs hm=>by
 subst hx
 have hlive:live s.H b:=⟨_,hb,rfl⟩
 have hlv:∀ c,live (s.H.set b (.row t 1 (ps.map fun p=>[p]))) c→live s.H c:=fun c hc=>q2r hc hlive
 have hsim:SimH w I ι (s.H.set b (.row t 1 (ps.map fun p=>[p]))):=by
  refine⟨fun c k hc=>?_,fun c c' B hc hc'=>hs.H.inj c c' B (hlv c hc) (hlv c' hc'),hs.H.Ilt,fun c hc=>hs.H.dom c (by simpa using hc),hs.H.rng⟩
  by_cases e:c=b
  ·subst e
   rw[k2y (J6 hlive)]at hc
   obtain rfl:=k0x hc
   obtain⟨B,cs,g1,g2,g3,g4,g5⟩:=hs.H.blk c _ hb
   refine .inr ⟨B,cs,g1,g2,g3,by simpa using g4,by simpa using hl,fun j e he=>?_⟩
   rw[k1z]at he
   cases hp:ps[j]? with
   |none=>rw[hp]at he;cases he
   |some p=>
    rw[hp]at he
    obtain rfl:=k0x he
    refine⟨rfl,fun i u hu=>?_⟩
    have h1:=g5 j (.p p) (by rw[k1z,hp];rfl)
    cases i with
    |zero=>
     obtain rfl:=k0x hu
     rw[Nat.mul_one,Nat.add_zero]
     cases h1 with
     |p h=>exact h
    |succ i=>simp at hu
  ·rw[k3z (by omega)]at hc
   exact hs.H.blk c k hc
 have hx:Ex m w I ι s.H w I ι (s.H.set b (.row t 1 (ps.map fun p=>[p]))):=⟨⟨rfl,rfl,rfl,k1v _,Shape.refl w,fun _ h=>h,fun _ _ _=>rfl,fun _ h=>.inl h,fun c B hc h=>.inr ⟨c,hlv c hc,h⟩⟩,fun _ _=>rfl,by simpa using hm⟩
 exact⟨I,ι,hs.turn ⟨hs.fr.1,hs.fr.2⟩ hsim hx,hx⟩
end Go.Proofs.YtkjklhcfgbaceaaGreat.AL
namespace Go.Proofs.YtkjklhcfgbaceaaGreat.AL
open Go Go.Proofs
def Z4 (A:Nat→Nat→UInt8)(c i:Nat):x8:=(List.range c).map (A i)
def X7 (A:Nat→Nat→UInt8)(c i k:Nat):x8:=(List.range k).map (A i)++List.replicate (c - k) 0
theorem W5 (A:Nat→Nat→UInt8){c:Nat}(i:Nat){k:Nat}(h:k≤c):(X7 A c i k).length=c:=by
 unfold X7;rw[k1y,k1x,k3q,k2z];omega
theorem q7q {l:x8}{k:Nat}(h:k<l.length):∃ v,(bx l)[k]?=some [u8 v]:=⟨l[k],by rw[bx,k1z,k0w h];rfl⟩
theorem q0x (A:Nat→Nat→UInt8)(c i:Nat):X7 A c i c=Z4 A c i:=by unfold X7 Z4;simp
theorem z6m (A:Nat→Nat→UInt8)(c i:Nat):List.replicate (c:Int).toNat [PV.raw (.int .u8 0)]=bx (X7 A c i 0):=by
 unfold X7 bx;simp
theorem q0y (A:Nat→Nat→UInt8){c:Nat}(i:Nat){k:Nat}(h:k<c):(bx (X7 A c i k)).set k [u8 (A i k)]=bx (X7 A c i (k+1)):=by
 have e:X7 A c i (k+1)=(X7 A c i k).set k (A i k):=by
  unfold X7
  rw[List.set_append_right _ _ (by rw[k1x,k3q];exact k1v _),k1x,k3q,Nat.sub_self,List.range_succ,List.map_append,List.append_assoc,show c - k=(c - (k+1))+1 by omega,List.replicate_succ]
  rfl
 rw[e]
 unfold bx
 rw[List.map_set]
theorem z4k (fn:FuncId)(c:Nat)(hc:c≤4096)(A:Nat→Nat→UInt8)(hA:∀ i k:Nat,i<1→k<c→AF k0q fn (i64 i :: i64 k :: []) [] (Q8 (.p (u8 (A i k))) [])) :
 AF k0q q2n [i64 1,i64 c,.clo (.func fn) []] [] (Q8 (.msl 0 1 0 1) [.cells y7 [.msl 1 1 0 c],.row y9 1 (bx (Z4 A c 0))]):=by
 refine Q7 hT Tryz.func201 rfl rfl Tryz.ntmps201 rfl ?_
 refine z7 hT ?_
 refine w9 ⟨⟨43,[(1,i64 c),(2,.clo (.func fn) []),(7,.msl 0 1 0 1)]⟩,[.cells y7 [.p (.raw (.slice none 0 0))]]⟩ True (z8 hT ?_) (fun _=>?_)
 ·refine⟨⟨rfl,by decide,by decide,by decide⟩,?_⟩
  exact⟨Wk.trans (q0k 0 [.raw (.slice none 0 0)] rfl rfl (by decide)) (z6 [0] [1,2,7] rfl),trivial⟩
 refine w9 ⟨⟨43,[(7,.msl 0 1 0 1)]⟩,[.cells y7 [.msl 1 1 0 c],.row y9 1 (bx (Z4 A c 0))]⟩ True (z7 hT ?_) (fun _=>?_)
 ·refine y8 ?_
  refine Q2 (fun n s=>(n=1∧s=⟨⟨43,[(1,i64 c),(2,.clo (.func fn) []),(7,.msl 0 1 0 1),(13,i64 1),(14,i64 0)]⟩,[.cells y7 [.p (.raw (.slice none 0 0))]]⟩)∨(n=0∧s=⟨⟨43,[(1,i64 c),(2,.clo (.func fn) []),(7,.msl 0 1 0 1),(13,i64 1),(14,i64 1)]⟩,[.cells y7 [.msl 1 1 0 c],.row y9 1 (bx (Z4 A c 0))]⟩)) 1 ⟨⟨43,_⟩,_⟩ (z6 [0] [1,2,7,13,14] rfl) (.inl ⟨rfl,rfl⟩) ?_
  rintro n s (⟨rfl,rfl⟩|⟨rfl,rfl⟩)
  ·refine z7 hT ?_
   refine u6 (y6 ?_)
   refine x6 ?_
   refine w9 ⟨⟨43,[(1,i64 c),(2,.clo (.func fn) []),(7,.msl 0 1 0 1),(13,i64 1),(8,i64 0),(14,i64 0)]⟩,[.cells y7 [.msl 1 1 0 c],.row y9 1 (bx (Z4 A c 0))]⟩ True (y8 ?_) (fun _=>?_)
   ·refine z7 hT ?_
    refine Q3 (fun st=>∃ X,X=bx (X7 A c 0 0)∧st=⟨⟨43,[(1,i64 c),(2,.clo (.func fn) []),(7,.msl 0 1 0 1),(13,i64 1),(8,i64 0),(14,i64 0)]⟩,[.cells y7 [.msl 1 1 0 c],.row y9 1 (X)]⟩) (z8 hT ?_) ?_
    ·refine⟨⟨rfl,by omega,by show (c:Int)*1≤_;omega,by omega⟩,?_⟩
     refine⟨by decide,?_⟩
     exact⟨_,z6 [0,1] [1,2,7,13,8,14] rfl,_,z6m A c 0,rfl⟩
    rintro _ ⟨X0,hX0,rfl⟩
    refine z7 hT ?_
    refine⟨by decide,?_⟩
    refine y8 ?_
    refine Q2 (fun n s=>∃ (k:Nat) (j:Int),n+k=c∧j=k∧s=⟨⟨43,[(1,i64 c),(2,.clo (.func fn) []),(7,.msl 0 1 0 1),(13,i64 1),(8,i64 0),(14,i64 0),(26,i64 c),(27,i64 j)]⟩,[.cells y7 [.msl 1 1 0 c],.row y9 1 (bx (X7 A c 0 k))]⟩) c ⟨⟨43,_⟩,_⟩ (z6 [0,1] [1,2,7,13,8,14,26,27] rfl) ⟨0,0,by omega,rfl,by rw[hX0];rfl⟩ ?_
    rintro n2 s ⟨k,j,hnk,hj,rfl⟩
    refine z7 hT ?_
    refine u6 (y6 (u7 (fun h=>?_) (fun h=>?_)))
    ·have h:=k0z (show decide (j<(c:Int))=true from h)
     refine x6 ?_
     have w:=hA 0 k (by decide) (by omega)
     rw[← hj]at w
     have w:AF k0q fn ([i64 0,i64 j]++[]) [] (Q8 (.p (u8 (A 0 k))) []):=w
     have hset:=q0y A (c:=c) 0 (k:=k) (by omega)
     have hjk:0+j.toNat=k:=by omega
     have hlen:(bx (X7 A c 0 k)).length=c:=by rw[Z0,W5 A 0 (by omega)]
     obtain⟨v,hv⟩:∃ v,(bx (X7 A c 0 k))[0+j.toNat]?=some [u8 v]:=by rw[hjk];exact q7q (by rw[W5 A 0 (by omega)];omega)
     refine Q3 (fun st=>∃ X,X=bx (X7 A c 0 (k+1))∧st=⟨⟨43,[(1,i64 c),(2,.clo (.func fn) []),(7,.msl 0 1 0 1),(13,i64 1),(8,i64 0),(14,i64 0),(26,i64 c),(27,i64 j)]⟩,[.cells y7 [.msl 1 1 0 c],.row y9 1 (X)]⟩) (y8 (z7 hT ?_)) ?_
     ·refine Q9 [10] [] hT u5 (by rfl) ?_
      refine⟨by decide,?_⟩
      refine⟨_,Q4 w _ rfl rfl,?_⟩
      refine⟨⟨by omega,by omega⟩,?_⟩
      refine Z1 hv ?_
      repeat first|refine⟨rfl,?_⟩|refine⟨⟨_,Q4 w _ rfl rfl,rfl⟩,?_⟩|refine⟨⟨by decide,rfl⟩,?_⟩|refine⟨⟨⟨by omega,by omega⟩,rfl⟩,?_⟩
      refine⟨_,z6 [0,1] [1,2,7,13,8,14,26,27] rfl,_,?_,rfl⟩
      show List.set (bx (X7 A c 0 k)) (0+j.toNat) [u8 (A 0 k)]=_
      rw[hjk,hset]
     ·rintro _ ⟨X,rfl,rfl⟩
      refine z8 hT ?_
      exact⟨n2 - 1,by omega,_,z6 [0,1] [1,2,7,13,8,14,26,27] rfl,k+1,IntKind.i64.wrap (j+1),by omega,by rw[Q0 _ (by omega) (by omega)];omega,rfl⟩
    ·have h:=k0y (show decide (j<(c:Int))=false from h)
     rw[show k=c by omega,q0x]
     refine Q6 ?_
     exact⟨z6 [0,1] [1,2,7,13,8,14] rfl,trivial⟩
   ·refine z8 hT ?_
    exact⟨0,by decide,_,z6 [0,1] [1,2,7,13,14] rfl,(.inr ⟨rfl,rfl⟩)⟩
  ·refine z7 hT ?_
   refine u6 (y6 ?_)
   refine Q6 ?_
   exact⟨z6 [0,1] [7] rfl,trivial⟩
 refine z7 hT ?_
 refine u0 ?_
 exact x7 [0,1] ⟨rfl,rfl⟩ rfl
theorem z4m (fn:FuncId)(c:Nat)(hc:c≤4096)(A:Nat→Nat→UInt8)(hA:∀ i k:Nat,i<2→k<c→AF k0q fn (i64 i :: i64 k :: []) [] (Q8 (.p (u8 (A i k))) [])) :
 AF k0q q2n [i64 2,i64 c,.clo (.func fn) []] [] (Q8 (.msl 0 1 0 2) [.cells y7 [.msl 1 1 0 c,.msl 2 1 0 c],.row y9 1 (bx (Z4 A c 0)),.row y9 1 (bx (Z4 A c 1))]):=by
 refine Q7 hT Tryz.func201 rfl rfl Tryz.ntmps201 rfl ?_
 refine z7 hT ?_
 refine w9 ⟨⟨43,[(1,i64 c),(2,.clo (.func fn) []),(7,.msl 0 1 0 2)]⟩,[.cells y7 [.p (.raw (.slice none 0 0)),.p (.raw (.slice none 0 0))]]⟩ True (z8 hT ?_) (fun _=>?_)
 ·refine⟨⟨rfl,by decide,by decide,by decide⟩,?_⟩
  exact⟨Wk.trans (q0k 0 [.raw (.slice none 0 0),.raw (.slice none 0 0)] rfl rfl (by decide)) (z6 [0] [1,2,7] rfl),trivial⟩
 refine w9 ⟨⟨43,[(7,.msl 0 1 0 2)]⟩,[.cells y7 [.msl 1 1 0 c,.msl 2 1 0 c],.row y9 1 (bx (Z4 A c 0)),.row y9 1 (bx (Z4 A c 1))]⟩ True (z7 hT ?_) (fun _=>?_)
 ·refine y8 ?_
  refine Q2 (fun n s=>(n=2∧s=⟨⟨43,[(1,i64 c),(2,.clo (.func fn) []),(7,.msl 0 1 0 2),(13,i64 2),(14,i64 0)]⟩,[.cells y7 [.p (.raw (.slice none 0 0)),.p (.raw (.slice none 0 0))]]⟩)∨(n=1∧s=⟨⟨43,[(1,i64 c),(2,.clo (.func fn) []),(7,.msl 0 1 0 2),(13,i64 2),(14,i64 1)]⟩,[.cells y7 [.msl 1 1 0 c,.p (.raw (.slice none 0 0))],.row y9 1 (bx (Z4 A c 0))]⟩)∨(n=0∧s=⟨⟨43,[(1,i64 c),(2,.clo (.func fn) []),(7,.msl 0 1 0 2),(13,i64 2),(14,i64 2)]⟩,[.cells y7 [.msl 1 1 0 c,.msl 2 1 0 c],.row y9 1 (bx (Z4 A c 0)),.row y9 1 (bx (Z4 A c 1))]⟩)) 2 ⟨⟨43,_⟩,_⟩ (z6 [0] [1,2,7,13,14] rfl) (.inl ⟨rfl,rfl⟩) ?_
  rintro n s (⟨rfl,rfl⟩|⟨rfl,rfl⟩|⟨rfl,rfl⟩)
  ·refine z7 hT ?_
   refine u6 (y6 ?_)
   refine x6 ?_
   refine w9 ⟨⟨43,[(1,i64 c),(2,.clo (.func fn) []),(7,.msl 0 1 0 2),(13,i64 2),(8,i64 0),(14,i64 0)]⟩,[.cells y7 [.msl 1 1 0 c,.p (.raw (.slice none 0 0))],.row y9 1 (bx (Z4 A c 0))]⟩ True (y8 ?_) (fun _=>?_)
   ·refine z7 hT ?_
    refine Q3 (fun st=>∃ X,X=bx (X7 A c 0 0)∧st=⟨⟨43,[(1,i64 c),(2,.clo (.func fn) []),(7,.msl 0 1 0 2),(13,i64 2),(8,i64 0),(14,i64 0)]⟩,[.cells y7 [.msl 1 1 0 c,.p (.raw (.slice none 0 0))],.row y9 1 (X)]⟩) (z8 hT ?_) ?_
    ·refine⟨⟨rfl,by omega,by show (c:Int)*1≤_;omega,by omega⟩,?_⟩
     refine⟨by decide,?_⟩
     exact⟨_,z6 [0,1] [1,2,7,13,8,14] rfl,_,z6m A c 0,rfl⟩
    rintro _ ⟨X0,hX0,rfl⟩
    refine z7 hT ?_
    refine⟨by decide,?_⟩
    refine y8 ?_
    refine Q2 (fun n s=>∃ (k:Nat) (j:Int),n+k=c∧j=k∧s=⟨⟨43,[(1,i64 c),(2,.clo (.func fn) []),(7,.msl 0 1 0 2),(13,i64 2),(8,i64 0),(14,i64 0),(26,i64 c),(27,i64 j)]⟩,[.cells y7 [.msl 1 1 0 c,.p (.raw (.slice none 0 0))],.row y9 1 (bx (X7 A c 0 k))]⟩) c ⟨⟨43,_⟩,_⟩ (z6 [0,1] [1,2,7,13,8,14,26,27] rfl) ⟨0,0,by omega,rfl,by rw[hX0];rfl⟩ ?_
    rintro n2 s ⟨k,j,hnk,hj,rfl⟩
    refine z7 hT ?_
    refine u6 (y6 (u7 (fun h=>?_) (fun h=>?_)))
    ·have h:=k0z (show decide (j<(c:Int))=true from h)
     refine x6 ?_
     have w:=hA 0 k (by decide) (by omega)
     rw[← hj]at w
     have w:AF k0q fn ([i64 0,i64 j]++[]) [] (Q8 (.p (u8 (A 0 k))) []):=w
     have hset:=q0y A (c:=c) 0 (k:=k) (by omega)
     have hjk:0+j.toNat=k:=by omega
     have hlen:(bx (X7 A c 0 k)).length=c:=by rw[Z0,W5 A 0 (by omega)]
     obtain⟨v,hv⟩:∃ v,(bx (X7 A c 0 k))[0+j.toNat]?=some [u8 v]:=by rw[hjk];exact q7q (by rw[W5 A 0 (by omega)];omega)
     refine Q3 (fun st=>∃ X,X=bx (X7 A c 0 (k+1))∧st=⟨⟨43,[(1,i64 c),(2,.clo (.func fn) []),(7,.msl 0 1 0 2),(13,i64 2),(8,i64 0),(14,i64 0),(26,i64 c),(27,i64 j)]⟩,[.cells y7 [.msl 1 1 0 c,.p (.raw (.slice none 0 0))],.row y9 1 (X)]⟩) (y8 (z7 hT ?_)) ?_
     ·refine Q9 [10] [] hT u5 (by rfl) ?_
      refine⟨by decide,?_⟩
      refine⟨_,Q4 w _ rfl rfl,?_⟩
      refine⟨⟨by omega,by omega⟩,?_⟩
      refine Z1 hv ?_
      repeat first|refine⟨rfl,?_⟩|refine⟨⟨_,Q4 w _ rfl rfl,rfl⟩,?_⟩|refine⟨⟨by decide,rfl⟩,?_⟩|refine⟨⟨⟨by omega,by omega⟩,rfl⟩,?_⟩
      refine⟨_,z6 [0,1] [1,2,7,13,8,14,26,27] rfl,_,?_,rfl⟩
      show List.set (bx (X7 A c 0 k)) (0+j.toNat) [u8 (A 0 k)]=_
      rw[hjk,hset]
     ·rintro _ ⟨X,rfl,rfl⟩
      refine z8 hT ?_
      exact⟨n2 - 1,by omega,_,z6 [0,1] [1,2,7,13,8,14,26,27] rfl,k+1,IntKind.i64.wrap (j+1),by omega,by rw[Q0 _ (by omega) (by omega)];omega,rfl⟩
    ·have h:=k0y (show decide (j<(c:Int))=false from h)
     rw[show k=c by omega,q0x]
     refine Q6 ?_
     exact⟨z6 [0,1] [1,2,7,13,8,14] rfl,trivial⟩
   ·refine z8 hT ?_
    exact⟨1,by decide,_,z6 [0,1] [1,2,7,13,14] rfl,(.inr (.inl ⟨rfl,rfl⟩))⟩
  ·refine z7 hT ?_
   refine u6 (y6 ?_)
   refine x6 ?_
   refine w9 ⟨⟨43,[(1,i64 c),(2,.clo (.func fn) []),(7,.msl 0 1 0 2),(13,i64 2),(8,i64 1),(14,i64 1)]⟩,[.cells y7 [.msl 1 1 0 c,.msl 2 1 0 c],.row y9 1 (bx (Z4 A c 0)),.row y9 1 (bx (Z4 A c 1))]⟩ True (y8 ?_) (fun _=>?_)
   ·refine z7 hT ?_
    refine Q3 (fun st=>∃ X,X=bx (X7 A c 1 0)∧st=⟨⟨43,[(1,i64 c),(2,.clo (.func fn) []),(7,.msl 0 1 0 2),(13,i64 2),(8,i64 1),(14,i64 1)]⟩,[.cells y7 [.msl 1 1 0 c,.msl 2 1 0 c],.row y9 1 (bx (Z4 A c 0)),.row y9 1 (X)]⟩) (z8 hT ?_) ?_
    ·refine⟨⟨rfl,by omega,by show (c:Int)*1≤_;omega,by omega⟩,?_⟩
     refine⟨by decide,?_⟩
     exact⟨_,z6 [0,1,2] [1,2,7,13,8,14] rfl,_,z6m A c 1,rfl⟩
    rintro _ ⟨X0,hX0,rfl⟩
    refine z7 hT ?_
    refine⟨by decide,?_⟩
    refine y8 ?_
    refine Q2 (fun n s=>∃ (k:Nat) (j:Int),n+k=c∧j=k∧s=⟨⟨43,[(1,i64 c),(2,.clo (.func fn) []),(7,.msl 0 1 0 2),(13,i64 2),(8,i64 1),(14,i64 1),(26,i64 c),(27,i64 j)]⟩,[.cells y7 [.msl 1 1 0 c,.msl 2 1 0 c],.row y9 1 (bx (Z4 A c 0)),.row y9 1 (bx (X7 A c 1 k))]⟩) c ⟨⟨43,_⟩,_⟩ (z6 [0,1,2] [1,2,7,13,8,14,26,27] rfl) ⟨0,0,by omega,rfl,by rw[hX0];rfl⟩ ?_
    rintro n2 s ⟨k,j,hnk,hj,rfl⟩
    refine z7 hT ?_
    refine u6 (y6 (u7 (fun h=>?_) (fun h=>?_)))
    ·have h:=k0z (show decide (j<(c:Int))=true from h)
     refine x6 ?_
     have w:=hA 1 k (by decide) (by omega)
     rw[← hj]at w
     have w:AF k0q fn ([i64 1,i64 j]++[]) [] (Q8 (.p (u8 (A 1 k))) []):=w
     have hset:=q0y A (c:=c) 1 (k:=k) (by omega)
     have hjk:0+j.toNat=k:=by omega
     have hlen:(bx (X7 A c 1 k)).length=c:=by rw[Z0,W5 A 1 (by omega)]
     obtain⟨v,hv⟩:∃ v,(bx (X7 A c 1 k))[0+j.toNat]?=some [u8 v]:=by rw[hjk];exact q7q (by rw[W5 A 1 (by omega)];omega)
     refine Q3 (fun st=>∃ X,X=bx (X7 A c 1 (k+1))∧st=⟨⟨43,[(1,i64 c),(2,.clo (.func fn) []),(7,.msl 0 1 0 2),(13,i64 2),(8,i64 1),(14,i64 1),(26,i64 c),(27,i64 j)]⟩,[.cells y7 [.msl 1 1 0 c,.msl 2 1 0 c],.row y9 1 (bx (Z4 A c 0)),.row y9 1 (X)]⟩) (y8 (z7 hT ?_)) ?_
     ·refine Q9 [10] [] hT u5 (by rfl) ?_
      refine⟨by decide,?_⟩
      refine⟨_,Q4 w _ rfl rfl,?_⟩
      refine⟨⟨by omega,by omega⟩,?_⟩
      refine Z1 hv ?_
      repeat first|refine⟨rfl,?_⟩|refine⟨⟨_,Q4 w _ rfl rfl,rfl⟩,?_⟩|refine⟨⟨by decide,rfl⟩,?_⟩|refine⟨⟨⟨by omega,by omega⟩,rfl⟩,?_⟩
      refine⟨_,z6 [0,1,2] [1,2,7,13,8,14,26,27] rfl,_,?_,rfl⟩
      show List.set (bx (X7 A c 1 k)) (0+j.toNat) [u8 (A 1 k)]=_
      rw[hjk,hset]
     ·rintro _ ⟨X,rfl,rfl⟩
      refine z8 hT ?_
      exact⟨n2 - 1,by omega,_,z6 [0,1,2] [1,2,7,13,8,14,26,27] rfl,k+1,IntKind.i64.wrap (j+1),by omega,by rw[Q0 _ (by omega) (by omega)];omega,rfl⟩
    ·have h:=k0y (show decide (j<(c:Int))=false from h)
     rw[show k=c by omega,q0x]
     refine Q6 ?_
     exact⟨z6 [0,1,2] [1,2,7,13,8,14] rfl,trivial⟩
   ·refine z8 hT ?_
    exact⟨0,by decide,_,z6 [0,1,2] [1,2,7,13,14] rfl,(.inr (.inr ⟨rfl,rfl⟩))⟩
  ·refine z7 hT ?_
   refine u6 (y6 ?_)
   refine Q6 ?_
   exact⟨z6 [0,1,2] [7] rfl,trivial⟩
 refine z7 hT ?_
 refine u0 ?_
 exact x7 [0,1,2] ⟨rfl,rfl⟩ rfl
theorem z4n (fn:FuncId)(c:Nat)(hc:c≤4096)(A:Nat→Nat→UInt8)(hA:∀ i k:Nat,i<3→k<c→AF k0q fn (i64 i :: i64 k :: []) [] (Q8 (.p (u8 (A i k))) [])) :
 AF k0q q2n [i64 3,i64 c,.clo (.func fn) []] [] (Q8 (.msl 0 1 0 3) [.cells y7 [.msl 1 1 0 c,.msl 2 1 0 c,.msl 3 1 0 c],.row y9 1 (bx (Z4 A c 0)),.row y9 1 (bx (Z4 A c 1)),.row y9 1 (bx (Z4 A c 2))]):=by
 refine Q7 hT Tryz.func201 rfl rfl Tryz.ntmps201 rfl ?_
 refine z7 hT ?_
 refine w9 ⟨⟨43,[(1,i64 c),(2,.clo (.func fn) []),(7,.msl 0 1 0 3)]⟩,[.cells y7 [.p (.raw (.slice none 0 0)),.p (.raw (.slice none 0 0)),.p (.raw (.slice none 0 0))]]⟩ True (z8 hT ?_) (fun _=>?_)
 ·refine⟨⟨rfl,by decide,by decide,by decide⟩,?_⟩
  exact⟨Wk.trans (q0k 0 [.raw (.slice none 0 0),.raw (.slice none 0 0),.raw (.slice none 0 0)] rfl rfl (by decide)) (z6 [0] [1,2,7] rfl),trivial⟩
 refine w9 ⟨⟨43,[(7,.msl 0 1 0 3)]⟩,[.cells y7 [.msl 1 1 0 c,.msl 2 1 0 c,.msl 3 1 0 c],.row y9 1 (bx (Z4 A c 0)),.row y9 1 (bx (Z4 A c 1)),.row y9 1 (bx (Z4 A c 2))]⟩ True (z7 hT ?_) (fun _=>?_)
 ·refine y8 ?_
  refine Q2 (fun n s=>(n=3∧s=⟨⟨43,[(1,i64 c),(2,.clo (.func fn) []),(7,.msl 0 1 0 3),(13,i64 3),(14,i64 0)]⟩,[.cells y7 [.p (.raw (.slice none 0 0)),.p (.raw (.slice none 0 0)),.p (.raw (.slice none 0 0))]]⟩)∨(n=2∧s=⟨⟨43,[(1,i64 c),(2,.clo (.func fn) []),(7,.msl 0 1 0 3),(13,i64 3),(14,i64 1)]⟩,[.cells y7 [.msl 1 1 0 c,.p (.raw (.slice none 0 0)),.p (.raw (.slice none 0 0))],.row y9 1 (bx (Z4 A c 0))]⟩)∨(n=1∧s=⟨⟨43,[(1,i64 c),(2,.clo (.func fn) []),(7,.msl 0 1 0 3),(13,i64 3),(14,i64 2)]⟩,[.cells y7 [.msl 1 1 0 c,.msl 2 1 0 c,.p (.raw (.slice none 0 0))],.row y9 1 (bx (Z4 A c 0)),.row y9 1 (bx (Z4 A c 1))]⟩)∨(n=0∧s=⟨⟨43,[(1,i64 c),(2,.clo (.func fn) []),(7,.msl 0 1 0 3),(13,i64 3),(14,i64 3)]⟩,[.cells y7 [.msl 1 1 0 c,.msl 2 1 0 c,.msl 3 1 0 c],.row y9 1 (bx (Z4 A c 0)),.row y9 1 (bx (Z4 A c 1)),.row y9 1 (bx (Z4 A c 2))]⟩)) 3 ⟨⟨43,_⟩,_⟩ (z6 [0] [1,2,7,13,14] rfl) (.inl ⟨rfl,rfl⟩) ?_
  rintro n s (⟨rfl,rfl⟩|⟨rfl,rfl⟩|⟨rfl,rfl⟩|⟨rfl,rfl⟩)
  ·refine z7 hT ?_
   refine u6 (y6 ?_)
   refine x6 ?_
   refine w9 ⟨⟨43,[(1,i64 c),(2,.clo (.func fn) []),(7,.msl 0 1 0 3),(13,i64 3),(8,i64 0),(14,i64 0)]⟩,[.cells y7 [.msl 1 1 0 c,.p (.raw (.slice none 0 0)),.p (.raw (.slice none 0 0))],.row y9 1 (bx (Z4 A c 0))]⟩ True (y8 ?_) (fun _=>?_)
   ·refine z7 hT ?_
    refine Q3 (fun st=>∃ X,X=bx (X7 A c 0 0)∧st=⟨⟨43,[(1,i64 c),(2,.clo (.func fn) []),(7,.msl 0 1 0 3),(13,i64 3),(8,i64 0),(14,i64 0)]⟩,[.cells y7 [.msl 1 1 0 c,.p (.raw (.slice none 0 0)),.p (.raw (.slice none 0 0))],.row y9 1 (X)]⟩) (z8 hT ?_) ?_
    ·refine⟨⟨rfl,by omega,by show (c:Int)*1≤_;omega,by omega⟩,?_⟩
     refine⟨by decide,?_⟩
     exact⟨_,z6 [0,1] [1,2,7,13,8,14] rfl,_,z6m A c 0,rfl⟩
    rintro _ ⟨X0,hX0,rfl⟩
    refine z7 hT ?_
    refine⟨by decide,?_⟩
    refine y8 ?_
    refine Q2 (fun n s=>∃ (k:Nat) (j:Int),n+k=c∧j=k∧s=⟨⟨43,[(1,i64 c),(2,.clo (.func fn) []),(7,.msl 0 1 0 3),(13,i64 3),(8,i64 0),(14,i64 0),(26,i64 c),(27,i64 j)]⟩,[.cells y7 [.msl 1 1 0 c,.p (.raw (.slice none 0 0)),.p (.raw (.slice none 0 0))],.row y9 1 (bx (X7 A c 0 k))]⟩) c ⟨⟨43,_⟩,_⟩ (z6 [0,1] [1,2,7,13,8,14,26,27] rfl) ⟨0,0,by omega,rfl,by rw[hX0];rfl⟩ ?_
    rintro n2 s ⟨k,j,hnk,hj,rfl⟩
    refine z7 hT ?_
    refine u6 (y6 (u7 (fun h=>?_) (fun h=>?_)))
    ·have h:=k0z (show decide (j<(c:Int))=true from h)
     refine x6 ?_
     have w:=hA 0 k (by decide) (by omega)
     rw[← hj]at w
     have w:AF k0q fn ([i64 0,i64 j]++[]) [] (Q8 (.p (u8 (A 0 k))) []):=w
     have hset:=q0y A (c:=c) 0 (k:=k) (by omega)
     have hjk:0+j.toNat=k:=by omega
     have hlen:(bx (X7 A c 0 k)).length=c:=by rw[Z0,W5 A 0 (by omega)]
     obtain⟨v,hv⟩:∃ v,(bx (X7 A c 0 k))[0+j.toNat]?=some [u8 v]:=by rw[hjk];exact q7q (by rw[W5 A 0 (by omega)];omega)
     refine Q3 (fun st=>∃ X,X=bx (X7 A c 0 (k+1))∧st=⟨⟨43,[(1,i64 c),(2,.clo (.func fn) []),(7,.msl 0 1 0 3),(13,i64 3),(8,i64 0),(14,i64 0),(26,i64 c),(27,i64 j)]⟩,[.cells y7 [.msl 1 1 0 c,.p (.raw (.slice none 0 0)),.p (.raw (.slice none 0 0))],.row y9 1 (X)]⟩) (y8 (z7 hT ?_)) ?_
     ·refine Q9 [10] [] hT u5 (by rfl) ?_
      refine⟨by decide,?_⟩
      refine⟨_,Q4 w _ rfl rfl,?_⟩
      refine⟨⟨by omega,by omega⟩,?_⟩
      refine Z1 hv ?_
      repeat first|refine⟨rfl,?_⟩|refine⟨⟨_,Q4 w _ rfl rfl,rfl⟩,?_⟩|refine⟨⟨by decide,rfl⟩,?_⟩|refine⟨⟨⟨by omega,by omega⟩,rfl⟩,?_⟩
      refine⟨_,z6 [0,1] [1,2,7,13,8,14,26,27] rfl,_,?_,rfl⟩
      show List.set (bx (X7 A c 0 k)) (0+j.toNat) [u8 (A 0 k)]=_
      rw[hjk,hset]
     ·rintro _ ⟨X,rfl,rfl⟩
      refine z8 hT ?_
      exact⟨n2 - 1,by omega,_,z6 [0,1] [1,2,7,13,8,14,26,27] rfl,k+1,IntKind.i64.wrap (j+1),by omega,by rw[Q0 _ (by omega) (by omega)];omega,rfl⟩
    ·have h:=k0y (show decide (j<(c:Int))=false from h)
     rw[show k=c by omega,q0x]
     refine Q6 ?_
     exact⟨z6 [0,1] [1,2,7,13,8,14] rfl,trivial⟩
   ·refine z8 hT ?_
    exact⟨2,by decide,_,z6 [0,1] [1,2,7,13,14] rfl,(.inr (.inl ⟨rfl,rfl⟩))⟩
  ·refine z7 hT ?_
   refine u6 (y6 ?_)
   refine x6 ?_
   refine w9 ⟨⟨43,[(1,i64 c),(2,.clo (.func fn) []),(7,.msl 0 1 0 3),(13,i64 3),(8,i64 1),(14,i64 1)]⟩,[.cells y7 [.msl 1 1 0 c,.msl 2 1 0 c,.p (.raw (.slice none 0 0))],.row y9 1 (bx (Z4 A c 0)),.row y9 1 (bx (Z4 A c 1))]⟩ True (y8 ?_) (fun _=>?_)
   ·refine z7 hT ?_
    refine Q3 (fun st=>∃ X,X=bx (X7 A c 1 0)∧st=⟨⟨43,[(1,i64 c),(2,.clo (.func fn) []),(7,.msl 0 1 0 3),(13,i64 3),(8,i64 1),(14,i64 1)]⟩,[.cells y7 [.msl 1 1 0 c,.msl 2 1 0 c,.p (.raw (.slice none 0 0))],.row y9 1 (bx (Z4 A c 0)),.row y9 1 (X)]⟩) (z8 hT ?_) ?_
    ·refine⟨⟨rfl,by omega,by show (c:Int)*1≤_;omega,by omega⟩,?_⟩
     refine⟨by decide,?_⟩
     exact⟨_,z6 [0,1,2] [1,2,7,13,8,14] rfl,_,z6m A c 1,rfl⟩
    rintro _ ⟨X0,hX0,rfl⟩
    refine z7 hT ?_
    refine⟨by decide,?_⟩
    refine y8 ?_
    refine Q2 (fun n s=>∃ (k:Nat) (j:Int),n+k=c∧j=k∧s=⟨⟨43,[(1,i64 c),(2,.clo (.func fn) []),(7,.msl 0 1 0 3),(13,i64 3),(8,i64 1),(14,i64 1),(26,i64 c),(27,i64 j)]⟩,[.cells y7 [.msl 1 1 0 c,.msl 2 1 0 c,.p (.raw (.slice none 0 0))],.row y9 1 (bx (Z4 A c 0)),.row y9 1 (bx (X7 A c 1 k))]⟩) c ⟨⟨43,_⟩,_⟩ (z6 [0,1,2] [1,2,7,13,8,14,26,27] rfl) ⟨0,0,by omega,rfl,by rw[hX0];rfl⟩ ?_
    rintro n2 s ⟨k,j,hnk,hj,rfl⟩
    refine z7 hT ?_
    refine u6 (y6 (u7 (fun h=>?_) (fun h=>?_)))
    ·have h:=k0z (show decide (j<(c:Int))=true from h)
     refine x6 ?_
     have w:=hA 1 k (by decide) (by omega)
     rw[← hj]at w
     have w:AF k0q fn ([i64 1,i64 j]++[]) [] (Q8 (.p (u8 (A 1 k))) []):=w
     have hset:=q0y A (c:=c) 1 (k:=k) (by omega)
     have hjk:0+j.toNat=k:=by omega
     have hlen:(bx (X7 A c 1 k)).length=c:=by rw[Z0,W5 A 1 (by omega)]
     obtain⟨v,hv⟩:∃ v,(bx (X7 A c 1 k))[0+j.toNat]?=some [u8 v]:=by rw[hjk];exact q7q (by rw[W5 A 1 (by omega)];omega)
     refine Q3 (fun st=>∃ X,X=bx (X7 A c 1 (k+1))∧st=⟨⟨43,[(1,i64 c),(2,.clo (.func fn) []),(7,.msl 0 1 0 3),(13,i64 3),(8,i64 1),(14,i64 1),(26,i64 c),(27,i64 j)]⟩,[.cells y7 [.msl 1 1 0 c,.msl 2 1 0 c,.p (.raw (.slice none 0 0))],.row y9 1 (bx (Z4 A c 0)),.row y9 1 (X)]⟩) (y8 (z7 hT ?_)) ?_
     ·refine Q9 [10] [] hT u5 (by rfl) ?_
      refine⟨by decide,?_⟩
      refine⟨_,Q4 w _ rfl rfl,?_⟩
      refine⟨⟨by omega,by omega⟩,?_⟩
      refine Z1 hv ?_
      repeat first|refine⟨rfl,?_⟩|refine⟨⟨_,Q4 w _ rfl rfl,rfl⟩,?_⟩|refine⟨⟨by decide,rfl⟩,?_⟩|refine⟨⟨⟨by omega,by omega⟩,rfl⟩,?_⟩
      refine⟨_,z6 [0,1,2] [1,2,7,13,8,14,26,27] rfl,_,?_,rfl⟩
      show List.set (bx (X7 A c 1 k)) (0+j.toNat) [u8 (A 1 k)]=_
      rw[hjk,hset]
     ·rintro _ ⟨X,rfl,rfl⟩
      refine z8 hT ?_
      exact⟨n2 - 1,by omega,_,z6 [0,1,2] [1,2,7,13,8,14,26,27] rfl,k+1,IntKind.i64.wrap (j+1),by omega,by rw[Q0 _ (by omega) (by omega)];omega,rfl⟩
    ·have h:=k0y (show decide (j<(c:Int))=false from h)
     rw[show k=c by omega,q0x]
     refine Q6 ?_
     exact⟨z6 [0,1,2] [1,2,7,13,8,14] rfl,trivial⟩
   ·refine z8 hT ?_
    exact⟨1,by decide,_,z6 [0,1,2] [1,2,7,13,14] rfl,(.inr (.inr (.inl ⟨rfl,rfl⟩)))⟩
  ·refine z7 hT ?_
   refine u6 (y6 ?_)
   refine x6 ?_
   refine w9 ⟨⟨43,[(1,i64 c),(2,.clo (.func fn) []),(7,.msl 0 1 0 3),(13,i64 3),(8,i64 2),(14,i64 2)]⟩,[.cells y7 [.msl 1 1 0 c,.msl 2 1 0 c,.msl 3 1 0 c],.row y9 1 (bx (Z4 A c 0)),.row y9 1 (bx (Z4 A c 1)),.row y9 1 (bx (Z4 A c 2))]⟩ True (y8 ?_) (fun _=>?_)
   ·refine z7 hT ?_
    refine Q3 (fun st=>∃ X,X=bx (X7 A c 2 0)∧st=⟨⟨43,[(1,i64 c),(2,.clo (.func fn) []),(7,.msl 0 1 0 3),(13,i64 3),(8,i64 2),(14,i64 2)]⟩,[.cells y7 [.msl 1 1 0 c,.msl 2 1 0 c,.msl 3 1 0 c],.row y9 1 (bx (Z4 A c 0)),.row y9 1 (bx (Z4 A c 1)),.row y9 1 (X)]⟩) (z8 hT ?_) ?_
    ·refine⟨⟨rfl,by omega,by show (c:Int)*1≤_;omega,by omega⟩,?_⟩
     refine⟨by decide,?_⟩
     exact⟨_,z6 [0,1,2,3] [1,2,7,13,8,14] rfl,_,z6m A c 2,rfl⟩
    rintro _ ⟨X0,hX0,rfl⟩
    refine z7 hT ?_
    refine⟨by decide,?_⟩
    refine y8 ?_
    refine Q2 (fun n s=>∃ (k:Nat) (j:Int),n+k=c∧j=k∧s=⟨⟨43,[(1,i64 c),(2,.clo (.func fn) []),(7,.msl 0 1 0 3),(13,i64 3),(8,i64 2),(14,i64 2),(26,i64 c),(27,i64 j)]⟩,[.cells y7 [.msl 1 1 0 c,.msl 2 1 0 c,.msl 3 1 0 c],.row y9 1 (bx (Z4 A c 0)),.row y9 1 (bx (Z4 A c 1)),.row y9 1 (bx (X7 A c 2 k))]⟩) c ⟨⟨43,_⟩,_⟩ (z6 [0,1,2,3] [1,2,7,13,8,14,26,27] rfl) ⟨0,0,by omega,rfl,by rw[hX0];rfl⟩ ?_
    rintro n2 s ⟨k,j,hnk,hj,rfl⟩
    refine z7 hT ?_
    refine u6 (y6 (u7 (fun h=>?_) (fun h=>?_)))
    ·have h:=k0z (show decide (j<(c:Int))=true from h)
     refine x6 ?_
     have w:=hA 2 k (by decide) (by omega)
     rw[← hj]at w
     have w:AF k0q fn ([i64 2,i64 j]++[]) [] (Q8 (.p (u8 (A 2 k))) []):=w
     have hset:=q0y A (c:=c) 2 (k:=k) (by omega)
     have hjk:0+j.toNat=k:=by omega
     have hlen:(bx (X7 A c 2 k)).length=c:=by rw[Z0,W5 A 2 (by omega)]
     obtain⟨v,hv⟩:∃ v,(bx (X7 A c 2 k))[0+j.toNat]?=some [u8 v]:=by rw[hjk];exact q7q (by rw[W5 A 2 (by omega)];omega)
     refine Q3 (fun st=>∃ X,X=bx (X7 A c 2 (k+1))∧st=⟨⟨43,[(1,i64 c),(2,.clo (.func fn) []),(7,.msl 0 1 0 3),(13,i64 3),(8,i64 2),(14,i64 2),(26,i64 c),(27,i64 j)]⟩,[.cells y7 [.msl 1 1 0 c,.msl 2 1 0 c,.msl 3 1 0 c],.row y9 1 (bx (Z4 A c 0)),.row y9 1 (bx (Z4 A c 1)),.row y9 1 (X)]⟩) (y8 (z7 hT ?_)) ?_
     ·refine Q9 [10] [] hT u5 (by rfl) ?_
      refine⟨by decide,?_⟩
      refine⟨_,Q4 w _ rfl rfl,?_⟩
      refine⟨⟨by omega,by omega⟩,?_⟩
      refine Z1 hv ?_
      repeat first|refine⟨rfl,?_⟩|refine⟨⟨_,Q4 w _ rfl rfl,rfl⟩,?_⟩|refine⟨⟨by decide,rfl⟩,?_⟩|refine⟨⟨⟨by omega,by omega⟩,rfl⟩,?_⟩
      refine⟨_,z6 [0,1,2,3] [1,2,7,13,8,14,26,27] rfl,_,?_,rfl⟩
      show List.set (bx (X7 A c 2 k)) (0+j.toNat) [u8 (A 2 k)]=_
      rw[hjk,hset]
     ·rintro _ ⟨X,rfl,rfl⟩
      refine z8 hT ?_
      exact⟨n2 - 1,by omega,_,z6 [0,1,2,3] [1,2,7,13,8,14,26,27] rfl,k+1,IntKind.i64.wrap (j+1),by omega,by rw[Q0 _ (by omega) (by omega)];omega,rfl⟩
    ·have h:=k0y (show decide (j<(c:Int))=false from h)
     rw[show k=c by omega,q0x]
     refine Q6 ?_
     exact⟨z6 [0,1,2,3] [1,2,7,13,8,14] rfl,trivial⟩
   ·refine z8 hT ?_
    exact⟨0,by decide,_,z6 [0,1,2,3] [1,2,7,13,14] rfl,(.inr (.inr (.inr ⟨rfl,rfl⟩)))⟩
  ·refine z7 hT ?_
   refine u6 (y6 ?_)
   refine Q6 ?_
   exact⟨z6 [0,1,2,3] [7] rfl,trivial⟩
 refine z7 hT ?_
 refine u0 ?_
 exact x7 [0,1,2,3] ⟨rfl,rfl⟩ rfl
theorem z4p (fn:FuncId)(c:Nat)(hc:c≤4096)(A:Nat→Nat→UInt8)(hA:∀ i k:Nat,i<4→k<c→AF k0q fn (i64 i :: i64 k :: []) [] (Q8 (.p (u8 (A i k))) [])) :
 AF k0q q2n [i64 4,i64 c,.clo (.func fn) []] [] (Q8 (.msl 0 1 0 4) [.cells y7 [.msl 1 1 0 c,.msl 2 1 0 c,.msl 3 1 0 c,.msl 4 1 0 c],.row y9 1 (bx (Z4 A c 0)),.row y9 1 (bx (Z4 A c 1)),.row y9 1 (bx (Z4 A c 2)),.row y9 1 (bx (Z4 A c 3))]):=by
 refine Q7 hT Tryz.func201 rfl rfl Tryz.ntmps201 rfl ?_
 refine z7 hT ?_
 refine w9 ⟨⟨43,[(1,i64 c),(2,.clo (.func fn) []),(7,.msl 0 1 0 4)]⟩,[.cells y7 [.p (.raw (.slice none 0 0)),.p (.raw (.slice none 0 0)),.p (.raw (.slice none 0 0)),.p (.raw (.slice none 0 0))]]⟩ True (z8 hT ?_) (fun _=>?_)
 ·refine⟨⟨rfl,by decide,by decide,by decide⟩,?_⟩
  exact⟨Wk.trans (q0k 0 [.raw (.slice none 0 0),.raw (.slice none 0 0),.raw (.slice none 0 0),.raw (.slice none 0 0)] rfl rfl (by decide)) (z6 [0] [1,2,7] rfl),trivial⟩
 refine w9 ⟨⟨43,[(7,.msl 0 1 0 4)]⟩,[.cells y7 [.msl 1 1 0 c,.msl 2 1 0 c,.msl 3 1 0 c,.msl 4 1 0 c],.row y9 1 (bx (Z4 A c 0)),.row y9 1 (bx (Z4 A c 1)),.row y9 1 (bx (Z4 A c 2)),.row y9 1 (bx (Z4 A c 3))]⟩ True (z7 hT ?_) (fun _=>?_)
 ·refine y8 ?_
  refine Q2 (fun n s=>(n=4∧s=⟨⟨43,[(1,i64 c),(2,.clo (.func fn) []),(7,.msl 0 1 0 4),(13,i64 4),(14,i64 0)]⟩,[.cells y7 [.p (.raw (.slice none 0 0)),.p (.raw (.slice none 0 0)),.p (.raw (.slice none 0 0)),.p (.raw (.slice none 0 0))]]⟩)∨(n=3∧s=⟨⟨43,[(1,i64 c),(2,.clo (.func fn) []),(7,.msl 0 1 0 4),(13,i64 4),(14,i64 1)]⟩,[.cells y7 [.msl 1 1 0 c,.p (.raw (.slice none 0 0)),.p (.raw (.slice none 0 0)),.p (.raw (.slice none 0 0))],.row y9 1 (bx (Z4 A c 0))]⟩)∨(n=2∧s=⟨⟨43,[(1,i64 c),(2,.clo (.func fn) []),(7,.msl 0 1 0 4),(13,i64 4),(14,i64 2)]⟩,[.cells y7 [.msl 1 1 0 c,.msl 2 1 0 c,.p (.raw (.slice none 0 0)),.p (.raw (.slice none 0 0))],.row y9 1 (bx (Z4 A c 0)),.row y9 1 (bx (Z4 A c 1))]⟩)∨(n=1∧s=⟨⟨43,[(1,i64 c),(2,.clo (.func fn) []),(7,.msl 0 1 0 4),(13,i64 4),(14,i64 3)]⟩,[.cells y7 [.msl 1 1 0 c,.msl 2 1 0 c,.msl 3 1 0 c,.p (.raw (.slice none 0 0))],.row y9 1 (bx (Z4 A c 0)),.row y9 1 (bx (Z4 A c 1)),.row y9 1 (bx (Z4 A c 2))]⟩)∨(n=0∧s=⟨⟨43,[(1,i64 c),(2,.clo (.func fn) []),(7,.msl 0 1 0 4),(13,i64 4),(14,i64 4)]⟩,[.cells y7 [.msl 1 1 0 c,.msl 2 1 0 c,.msl 3 1 0 c,.msl 4 1 0 c],.row y9 1 (bx (Z4 A c 0)),.row y9 1 (bx (Z4 A c 1)),.row y9 1 (bx (Z4 A c 2)),.row y9 1 (bx (Z4 A c 3))]⟩)) 4 ⟨⟨43,_⟩,_⟩ (z6 [0] [1,2,7,13,14] rfl) (.inl ⟨rfl,rfl⟩) ?_
  rintro n s (⟨rfl,rfl⟩|⟨rfl,rfl⟩|⟨rfl,rfl⟩|⟨rfl,rfl⟩|⟨rfl,rfl⟩)
  ·refine z7 hT ?_
   refine u6 (y6 ?_)
   refine x6 ?_
   refine w9 ⟨⟨43,[(1,i64 c),(2,.clo (.func fn) []),(7,.msl 0 1 0 4),(13,i64 4),(8,i64 0),(14,i64 0)]⟩,[.cells y7 [.msl 1 1 0 c,.p (.raw (.slice none 0 0)),.p (.raw (.slice none 0 0)),.p (.raw (.slice none 0 0))],.row y9 1 (bx (Z4 A c 0))]⟩ True (y8 ?_) (fun _=>?_)
   ·refine z7 hT ?_
    refine Q3 (fun st=>∃ X,X=bx (X7 A c 0 0)∧st=⟨⟨43,[(1,i64 c),(2,.clo (.func fn) []),(7,.msl 0 1 0 4),(13,i64 4),(8,i64 0),(14,i64 0)]⟩,[.cells y7 [.msl 1 1 0 c,.p (.raw (.slice none 0 0)),.p (.raw (.slice none 0 0)),.p (.raw (.slice none 0 0))],.row y9 1 (X)]⟩) (z8 hT ?_) ?_
    ·refine⟨⟨rfl,by omega,by show (c:Int)*1≤_;omega,by omega⟩,?_⟩
     refine⟨by decide,?_⟩
     exact⟨_,z6 [0,1] [1,2,7,13,8,14] rfl,_,z6m A c 0,rfl⟩
    rintro _ ⟨X0,hX0,rfl⟩
    refine z7 hT ?_
    refine⟨by decide,?_⟩
    refine y8 ?_
    refine Q2 (fun n s=>∃ (k:Nat) (j:Int),n+k=c∧j=k∧s=⟨⟨43,[(1,i64 c),(2,.clo (.func fn) []),(7,.msl 0 1 0 4),(13,i64 4),(8,i64 0),(14,i64 0),(26,i64 c),(27,i64 j)]⟩,[.cells y7 [.msl 1 1 0 c,.p (.raw (.slice none 0 0)),.p (.raw (.slice none 0 0)),.p (.raw (.slice none 0 0))],.row y9 1 (bx (X7 A c 0 k))]⟩) c ⟨⟨43,_⟩,_⟩ (z6 [0,1] [1,2,7,13,8,14,26,27] rfl) ⟨0,0,by omega,rfl,by rw[hX0];rfl⟩ ?_
    rintro n2 s ⟨k,j,hnk,hj,rfl⟩
    refine z7 hT ?_
    refine u6 (y6 (u7 (fun h=>?_) (fun h=>?_)))
    ·have h:=k0z (show decide (j<(c:Int))=true from h)
     refine x6 ?_
     have w:=hA 0 k (by decide) (by omega)
     rw[← hj]at w
     have w:AF k0q fn ([i64 0,i64 j]++[]) [] (Q8 (.p (u8 (A 0 k))) []):=w
     have hset:=q0y A (c:=c) 0 (k:=k) (by omega)
     have hjk:0+j.toNat=k:=by omega
     have hlen:(bx (X7 A c 0 k)).length=c:=by rw[Z0,W5 A 0 (by omega)]
     obtain⟨v,hv⟩:∃ v,(bx (X7 A c 0 k))[0+j.toNat]?=some [u8 v]:=by rw[hjk];exact q7q (by rw[W5 A 0 (by omega)];omega)
     refine Q3 (fun st=>∃ X,X=bx (X7 A c 0 (k+1))∧st=⟨⟨43,[(1,i64 c),(2,.clo (.func fn) []),(7,.msl 0 1 0 4),(13,i64 4),(8,i64 0),(14,i64 0),(26,i64 c),(27,i64 j)]⟩,[.cells y7 [.msl 1 1 0 c,.p (.raw (.slice none 0 0)),.p (.raw (.slice none 0 0)),.p (.raw (.slice none 0 0))],.row y9 1 (X)]⟩) (y8 (z7 hT ?_)) ?_
     ·refine Q9 [10] [] hT u5 (by rfl) ?_
      refine⟨by decide,?_⟩
      refine⟨_,Q4 w _ rfl rfl,?_⟩
      refine⟨⟨by omega,by omega⟩,?_⟩
      refine Z1 hv ?_
      repeat first|refine⟨rfl,?_⟩|refine⟨⟨_,Q4 w _ rfl rfl,rfl⟩,?_⟩|refine⟨⟨by decide,rfl⟩,?_⟩|refine⟨⟨⟨by omega,by omega⟩,rfl⟩,?_⟩
      refine⟨_,z6 [0,1] [1,2,7,13,8,14,26,27] rfl,_,?_,rfl⟩
      show List.set (bx (X7 A c 0 k)) (0+j.toNat) [u8 (A 0 k)]=_
      rw[hjk,hset]
     ·rintro _ ⟨X,rfl,rfl⟩
      refine z8 hT ?_
      exact⟨n2 - 1,by omega,_,z6 [0,1] [1,2,7,13,8,14,26,27] rfl,k+1,IntKind.i64.wrap (j+1),by omega,by rw[Q0 _ (by omega) (by omega)];omega,rfl⟩
    ·have h:=k0y (show decide (j<(c:Int))=false from h)
     rw[show k=c by omega,q0x]
     refine Q6 ?_
     exact⟨z6 [0,1] [1,2,7,13,8,14] rfl,trivial⟩
   ·refine z8 hT ?_
    exact⟨3,by decide,_,z6 [0,1] [1,2,7,13,14] rfl,(.inr (.inl ⟨rfl,rfl⟩))⟩
  ·refine z7 hT ?_
   refine u6 (y6 ?_)
   refine x6 ?_
   refine w9 ⟨⟨43,[(1,i64 c),(2,.clo (.func fn) []),(7,.msl 0 1 0 4),(13,i64 4),(8,i64 1),(14,i64 1)]⟩,[.cells y7 [.msl 1 1 0 c,.msl 2 1 0 c,.p (.raw (.slice none 0 0)),.p (.raw (.slice none 0 0))],.row y9 1 (bx (Z4 A c 0)),.row y9 1 (bx (Z4 A c 1))]⟩ True (y8 ?_) (fun _=>?_)
   ·refine z7 hT ?_
    refine Q3 (fun st=>∃ X,X=bx (X7 A c 1 0)∧st=⟨⟨43,[(1,i64 c),(2,.clo (.func fn) []),(7,.msl 0 1 0 4),(13,i64 4),(8,i64 1),(14,i64 1)]⟩,[.cells y7 [.msl 1 1 0 c,.msl 2 1 0 c,.p (.raw (.slice none 0 0)),.p (.raw (.slice none 0 0))],.row y9 1 (bx (Z4 A c 0)),.row y9 1 (X)]⟩) (z8 hT ?_) ?_
    ·refine⟨⟨rfl,by omega,by show (c:Int)*1≤_;omega,by omega⟩,?_⟩
     refine⟨by decide,?_⟩
     exact⟨_,z6 [0,1,2] [1,2,7,13,8,14] rfl,_,z6m A c 1,rfl⟩
    rintro _ ⟨X0,hX0,rfl⟩
    refine z7 hT ?_
    refine⟨by decide,?_⟩
    refine y8 ?_
    refine Q2 (fun n s=>∃ (k:Nat) (j:Int),n+k=c∧j=k∧s=⟨⟨43,[(1,i64 c),(2,.clo (.func fn) []),(7,.msl 0 1 0 4),(13,i64 4),(8,i64 1),(14,i64 1),(26,i64 c),(27,i64 j)]⟩,[.cells y7 [.msl 1 1 0 c,.msl 2 1 0 c,.p (.raw (.slice none 0 0)),.p (.raw (.slice none 0 0))],.row y9 1 (bx (Z4 A c 0)),.row y9 1 (bx (X7 A c 1 k))]⟩) c ⟨⟨43,_⟩,_⟩ (z6 [0,1,2] [1,2,7,13,8,14,26,27] rfl) ⟨0,0,by omega,rfl,by rw[hX0];rfl⟩ ?_
    rintro n2 s ⟨k,j,hnk,hj,rfl⟩
    refine z7 hT ?_
    refine u6 (y6 (u7 (fun h=>?_) (fun h=>?_)))
    ·have h:=k0z (show decide (j<(c:Int))=true from h)
     refine x6 ?_
     have w:=hA 1 k (by decide) (by omega)
     rw[← hj]at w
     have w:AF k0q fn ([i64 1,i64 j]++[]) [] (Q8 (.p (u8 (A 1 k))) []):=w
     have hset:=q0y A (c:=c) 1 (k:=k) (by omega)
     have hjk:0+j.toNat=k:=by omega
     have hlen:(bx (X7 A c 1 k)).length=c:=by rw[Z0,W5 A 1 (by omega)]
     obtain⟨v,hv⟩:∃ v,(bx (X7 A c 1 k))[0+j.toNat]?=some [u8 v]:=by rw[hjk];exact q7q (by rw[W5 A 1 (by omega)];omega)
     refine Q3 (fun st=>∃ X,X=bx (X7 A c 1 (k+1))∧st=⟨⟨43,[(1,i64 c),(2,.clo (.func fn) []),(7,.msl 0 1 0 4),(13,i64 4),(8,i64 1),(14,i64 1),(26,i64 c),(27,i64 j)]⟩,[.cells y7 [.msl 1 1 0 c,.msl 2 1 0 c,.p (.raw (.slice none 0 0)),.p (.raw (.slice none 0 0))],.row y9 1 (bx (Z4 A c 0)),.row y9 1 (X)]⟩) (y8 (z7 hT ?_)) ?_
     ·refine Q9 [10] [] hT u5 (by rfl) ?_
      refine⟨by decide,?_⟩
      refine⟨_,Q4 w _ rfl rfl,?_⟩
      refine⟨⟨by omega,by omega⟩,?_⟩
      refine Z1 hv ?_
      repeat first|refine⟨rfl,?_⟩|refine⟨⟨_,Q4 w _ rfl rfl,rfl⟩,?_⟩|refine⟨⟨by decide,rfl⟩,?_⟩|refine⟨⟨⟨by omega,by omega⟩,rfl⟩,?_⟩
      refine⟨_,z6 [0,1,2] [1,2,7,13,8,14,26,27] rfl,_,?_,rfl⟩
      show List.set (bx (X7 A c 1 k)) (0+j.toNat) [u8 (A 1 k)]=_
      rw[hjk,hset]
     ·rintro _ ⟨X,rfl,rfl⟩
      refine z8 hT ?_
      exact⟨n2 - 1,by omega,_,z6 [0,1,2] [1,2,7,13,8,14,26,27] rfl,k+1,IntKind.i64.wrap (j+1),by omega,by rw[Q0 _ (by omega) (by omega)];omega,rfl⟩
    ·have h:=k0y (show decide (j<(c:Int))=false from h)
     rw[show k=c by omega,q0x]
     refine Q6 ?_
     exact⟨z6 [0,1,2] [1,2,7,13,8,14] rfl,trivial⟩
   ·refine z8 hT ?_
    exact⟨2,by decide,_,z6 [0,1,2] [1,2,7,13,14] rfl,(.inr (.inr (.inl ⟨rfl,rfl⟩)))⟩
  ·refine z7 hT ?_
   refine u6 (y6 ?_)
   refine x6 ?_
   refine w9 ⟨⟨43,[(1,i64 c),(2,.clo (.func fn) []),(7,.msl 0 1 0 4),(13,i64 4),(8,i64 2),(14,i64 2)]⟩,[.cells y7 [.msl 1 1 0 c,.msl 2 1 0 c,.msl 3 1 0 c,.p (.raw (.slice none 0 0))],.row y9 1 (bx (Z4 A c 0)),.row y9 1 (bx (Z4 A c 1)),.row y9 1 (bx (Z4 A c 2))]⟩ True (y8 ?_) (fun _=>?_)
   ·refine z7 hT ?_
    refine Q3 (fun st=>∃ X,X=bx (X7 A c 2 0)∧st=⟨⟨43,[(1,i64 c),(2,.clo (.func fn) []),(7,.msl 0 1 0 4),(13,i64 4),(8,i64 2),(14,i64 2)]⟩,[.cells y7 [.msl 1 1 0 c,.msl 2 1 0 c,.msl 3 1 0 c,.p (.raw (.slice none 0 0))],.row y9 1 (bx (Z4 A c 0)),.row y9 1 (bx (Z4 A c 1)),.row y9 1 (X)]⟩) (z8 hT ?_) ?_
    ·refine⟨⟨rfl,by omega,by show (c:Int)*1≤_;omega,by omega⟩,?_⟩
     refine⟨by decide,?_⟩
     exact⟨_,z6 [0,1,2,3] [1,2,7,13,8,14] rfl,_,z6m A c 2,rfl⟩
    rintro _ ⟨X0,hX0,rfl⟩
    refine z7 hT ?_
    refine⟨by decide,?_⟩
    refine y8 ?_
    refine Q2 (fun n s=>∃ (k:Nat) (j:Int),n+k=c∧j=k∧s=⟨⟨43,[(1,i64 c),(2,.clo (.func fn) []),(7,.msl 0 1 0 4),(13,i64 4),(8,i64 2),(14,i64 2),(26,i64 c),(27,i64 j)]⟩,[.cells y7 [.msl 1 1 0 c,.msl 2 1 0 c,.msl 3 1 0 c,.p (.raw (.slice none 0 0))],.row y9 1 (bx (Z4 A c 0)),.row y9 1 (bx (Z4 A c 1)),.row y9 1 (bx (X7 A c 2 k))]⟩) c ⟨⟨43,_⟩,_⟩ (z6 [0,1,2,3] [1,2,7,13,8,14,26,27] rfl) ⟨0,0,by omega,rfl,by rw[hX0];rfl⟩ ?_
    rintro n2 s ⟨k,j,hnk,hj,rfl⟩
    refine z7 hT ?_
    refine u6 (y6 (u7 (fun h=>?_) (fun h=>?_)))
    ·have h:=k0z (show decide (j<(c:Int))=true from h)
     refine x6 ?_
     have w:=hA 2 k (by decide) (by omega)
     rw[← hj]at w
     have w:AF k0q fn ([i64 2,i64 j]++[]) [] (Q8 (.p (u8 (A 2 k))) []):=w
     have hset:=q0y A (c:=c) 2 (k:=k) (by omega)
     have hjk:0+j.toNat=k:=by omega
     have hlen:(bx (X7 A c 2 k)).length=c:=by rw[Z0,W5 A 2 (by omega)]
     obtain⟨v,hv⟩:∃ v,(bx (X7 A c 2 k))[0+j.toNat]?=some [u8 v]:=by rw[hjk];exact q7q (by rw[W5 A 2 (by omega)];omega)
     refine Q3 (fun st=>∃ X,X=bx (X7 A c 2 (k+1))∧st=⟨⟨43,[(1,i64 c),(2,.clo (.func fn) []),(7,.msl 0 1 0 4),(13,i64 4),(8,i64 2),(14,i64 2),(26,i64 c),(27,i64 j)]⟩,[.cells y7 [.msl 1 1 0 c,.msl 2 1 0 c,.msl 3 1 0 c,.p (.raw (.slice none 0 0))],.row y9 1 (bx (Z4 A c 0)),.row y9 1 (bx (Z4 A c 1)),.row y9 1 (X)]⟩) (y8 (z7 hT ?_)) ?_
     ·refine Q9 [10] [] hT u5 (by rfl) ?_
      refine⟨by decide,?_⟩
      refine⟨_,Q4 w _ rfl rfl,?_⟩
      refine⟨⟨by omega,by omega⟩,?_⟩
      refine Z1 hv ?_
      repeat first|refine⟨rfl,?_⟩|refine⟨⟨_,Q4 w _ rfl rfl,rfl⟩,?_⟩|refine⟨⟨by decide,rfl⟩,?_⟩|refine⟨⟨⟨by omega,by omega⟩,rfl⟩,?_⟩
      refine⟨_,z6 [0,1,2,3] [1,2,7,13,8,14,26,27] rfl,_,?_,rfl⟩
      show List.set (bx (X7 A c 2 k)) (0+j.toNat) [u8 (A 2 k)]=_
      rw[hjk,hset]
     ·rintro _ ⟨X,rfl,rfl⟩
      refine z8 hT ?_
      exact⟨n2 - 1,by omega,_,z6 [0,1,2,3] [1,2,7,13,8,14,26,27] rfl,k+1,IntKind.i64.wrap (j+1),by omega,by rw[Q0 _ (by omega) (by omega)];omega,rfl⟩
    ·have h:=k0y (show decide (j<(c:Int))=false from h)
     rw[show k=c by omega,q0x]
     refine Q6 ?_
     exact⟨z6 [0,1,2,3] [1,2,7,13,8,14] rfl,trivial⟩
   ·refine z8 hT ?_
    exact⟨1,by decide,_,z6 [0,1,2,3] [1,2,7,13,14] rfl,(.inr (.inr (.inr (.inl ⟨rfl,rfl⟩))))⟩
  ·refine z7 hT ?_
   refine u6 (y6 ?_)
   refine x6 ?_
   refine w9 ⟨⟨43,[(1,i64 c),(2,.clo (.func fn) []),(7,.msl 0 1 0 4),(13,i64 4),(8,i64 3),(14,i64 3)]⟩,[.cells y7 [.msl 1 1 0 c,.msl 2 1 0 c,.msl 3 1 0 c,.msl 4 1 0 c],.row y9 1 (bx (Z4 A c 0)),.row y9 1 (bx (Z4 A c 1)),.row y9 1 (bx (Z4 A c 2)),.row y9 1 (bx (Z4 A c 3))]⟩ True (y8 ?_) (fun _=>?_)
   ·refine z7 hT ?_
    refine Q3 (fun st=>∃ X,X=bx (X7 A c 3 0)∧st=⟨⟨43,[(1,i64 c),(2,.clo (.func fn) []),(7,.msl 0 1 0 4),(13,i64 4),(8,i64 3),(14,i64 3)]⟩,[.cells y7 [.msl 1 1 0 c,.msl 2 1 0 c,.msl 3 1 0 c,.msl 4 1 0 c],.row y9 1 (bx (Z4 A c 0)),.row y9 1 (bx (Z4 A c 1)),.row y9 1 (bx (Z4 A c 2)),.row y9 1 (X)]⟩) (z8 hT ?_) ?_
    ·refine⟨⟨rfl,by omega,by show (c:Int)*1≤_;omega,by omega⟩,?_⟩
     refine⟨by decide,?_⟩
     exact⟨_,z6 [0,1,2,3,4] [1,2,7,13,8,14] rfl,_,z6m A c 3,rfl⟩
    rintro _ ⟨X0,hX0,rfl⟩
    refine z7 hT ?_
    refine⟨by decide,?_⟩
    refine y8 ?_
    refine Q2 (fun n s=>∃ (k:Nat) (j:Int),n+k=c∧j=k∧s=⟨⟨43,[(1,i64 c),(2,.clo (.func fn) []),(7,.msl 0 1 0 4),(13,i64 4),(8,i64 3),(14,i64 3),(26,i64 c),(27,i64 j)]⟩,[.cells y7 [.msl 1 1 0 c,.msl 2 1 0 c,.msl 3 1 0 c,.msl 4 1 0 c],.row y9 1 (bx (Z4 A c 0)),.row y9 1 (bx (Z4 A c 1)),.row y9 1 (bx (Z4 A c 2)),.row y9 1 (bx (X7 A c 3 k))]⟩) c ⟨⟨43,_⟩,_⟩ (z6 [0,1,2,3,4] [1,2,7,13,8,14,26,27] rfl) ⟨0,0,by omega,rfl,by rw[hX0];rfl⟩ ?_
    rintro n2 s ⟨k,j,hnk,hj,rfl⟩
    refine z7 hT ?_
    refine u6 (y6 (u7 (fun h=>?_) (fun h=>?_)))
    ·have h:=k0z (show decide (j<(c:Int))=true from h)
     refine x6 ?_
     have w:=hA 3 k (by decide) (by omega)
     rw[← hj]at w
     have w:AF k0q fn ([i64 3,i64 j]++[]) [] (Q8 (.p (u8 (A 3 k))) []):=w
     have hset:=q0y A (c:=c) 3 (k:=k) (by omega)
     have hjk:0+j.toNat=k:=by omega
     have hlen:(bx (X7 A c 3 k)).length=c:=by rw[Z0,W5 A 3 (by omega)]
     obtain⟨v,hv⟩:∃ v,(bx (X7 A c 3 k))[0+j.toNat]?=some [u8 v]:=by rw[hjk];exact q7q (by rw[W5 A 3 (by omega)];omega)
     refine Q3 (fun st=>∃ X,X=bx (X7 A c 3 (k+1))∧st=⟨⟨43,[(1,i64 c),(2,.clo (.func fn) []),(7,.msl 0 1 0 4),(13,i64 4),(8,i64 3),(14,i64 3),(26,i64 c),(27,i64 j)]⟩,[.cells y7 [.msl 1 1 0 c,.msl 2 1 0 c,.msl 3 1 0 c,.msl 4 1 0 c],.row y9 1 (bx (Z4 A c 0)),.row y9 1 (bx (Z4 A c 1)),.row y9 1 (bx (Z4 A c 2)),.row y9 1 (X)]⟩) (y8 (z7 hT ?_)) ?_
     ·refine Q9 [10] [] hT u5 (by rfl) ?_
      refine⟨by decide,?_⟩
      refine⟨_,Q4 w _ rfl rfl,?_⟩
      refine⟨⟨by omega,by omega⟩,?_⟩
      refine Z1 hv ?_
      repeat first|refine⟨rfl,?_⟩|refine⟨⟨_,Q4 w _ rfl rfl,rfl⟩,?_⟩|refine⟨⟨by decide,rfl⟩,?_⟩|refine⟨⟨⟨by omega,by omega⟩,rfl⟩,?_⟩
      refine⟨_,z6 [0,1,2,3,4] [1,2,7,13,8,14,26,27] rfl,_,?_,rfl⟩
      show List.set (bx (X7 A c 3 k)) (0+j.toNat) [u8 (A 3 k)]=_
      rw[hjk,hset]
     ·rintro _ ⟨X,rfl,rfl⟩
      refine z8 hT ?_
      exact⟨n2 - 1,by omega,_,z6 [0,1,2,3,4] [1,2,7,13,8,14,26,27] rfl,k+1,IntKind.i64.wrap (j+1),by omega,by rw[Q0 _ (by omega) (by omega)];omega,rfl⟩
    ·have h:=k0y (show decide (j<(c:Int))=false from h)
     rw[show k=c by omega,q0x]
     refine Q6 ?_
     exact⟨z6 [0,1,2,3,4] [1,2,7,13,8,14] rfl,trivial⟩
   ·refine z8 hT ?_
    exact⟨0,by decide,_,z6 [0,1,2,3,4] [1,2,7,13,14] rfl,(.inr (.inr (.inr (.inr ⟨rfl,rfl⟩))))⟩
  ·refine z7 hT ?_
   refine u6 (y6 ?_)
   refine Q6 ?_
   exact⟨z6 [0,1,2,3,4] [7] rfl,trivial⟩
 refine z7 hT ?_
 refine u0 ?_
 exact x7 [0,1,2,3,4] ⟨rfl,rfl⟩ rfl
theorem x5j (fn:FuncId)(x y:PV)(c:Nat)(hc:c≤4096)(A:Nat→Nat→UInt8)(hA:∀ i k:Nat,i<1→k<c→AF k0q fn (i64 i :: i64 k :: [.p x,.p y]) [] (Q8 (.p (u8 (A i k))) [])) :
 AF k0q q2n [i64 1,i64 c,.clo (.func fn) [.p x,.p y]] [] (Q8 (.msl 0 1 0 1) [.cells y7 [.msl 1 1 0 c],.row y9 1 (bx (Z4 A c 0))]):=by
 refine Q7 hT Tryz.func201 rfl rfl Tryz.ntmps201 rfl ?_
 refine z7 hT ?_
 refine w9 ⟨⟨43,[(1,i64 c),(2,.clo (.func fn) [.p x,.p y]),(7,.msl 0 1 0 1)]⟩,[.cells y7 [.p (.raw (.slice none 0 0))]]⟩ True (z8 hT ?_) (fun _=>?_)
 ·refine⟨⟨rfl,by decide,by decide,by decide⟩,?_⟩
  exact⟨Wk.trans (q0k 0 [.raw (.slice none 0 0)] rfl rfl (by decide)) (z6 [0] [1,2,7] rfl),trivial⟩
 refine w9 ⟨⟨43,[(7,.msl 0 1 0 1)]⟩,[.cells y7 [.msl 1 1 0 c],.row y9 1 (bx (Z4 A c 0))]⟩ True (z7 hT ?_) (fun _=>?_)
 ·refine y8 ?_
  refine Q2 (fun n s=>(n=1∧s=⟨⟨43,[(1,i64 c),(2,.clo (.func fn) [.p x,.p y]),(7,.msl 0 1 0 1),(13,i64 1),(14,i64 0)]⟩,[.cells y7 [.p (.raw (.slice none 0 0))]]⟩)∨(n=0∧s=⟨⟨43,[(1,i64 c),(2,.clo (.func fn) [.p x,.p y]),(7,.msl 0 1 0 1),(13,i64 1),(14,i64 1)]⟩,[.cells y7 [.msl 1 1 0 c],.row y9 1 (bx (Z4 A c 0))]⟩)) 1 ⟨⟨43,_⟩,_⟩ (z6 [0] [1,2,7,13,14] rfl) (.inl ⟨rfl,rfl⟩) ?_
  rintro n s (⟨rfl,rfl⟩|⟨rfl,rfl⟩)
  ·refine z7 hT ?_
   refine u6 (y6 ?_)
   refine x6 ?_
   refine w9 ⟨⟨43,[(1,i64 c),(2,.clo (.func fn) [.p x,.p y]),(7,.msl 0 1 0 1),(13,i64 1),(8,i64 0),(14,i64 0)]⟩,[.cells y7 [.msl 1 1 0 c],.row y9 1 (bx (Z4 A c 0))]⟩ True (y8 ?_) (fun _=>?_)
   ·refine z7 hT ?_
    refine Q3 (fun st=>∃ X,X=bx (X7 A c 0 0)∧st=⟨⟨43,[(1,i64 c),(2,.clo (.func fn) [.p x,.p y]),(7,.msl 0 1 0 1),(13,i64 1),(8,i64 0),(14,i64 0)]⟩,[.cells y7 [.msl 1 1 0 c],.row y9 1 (X)]⟩) (z8 hT ?_) ?_
    ·refine⟨⟨rfl,by omega,by show (c:Int)*1≤_;omega,by omega⟩,?_⟩
     refine⟨by decide,?_⟩
     exact⟨_,z6 [0,1] [1,2,7,13,8,14] rfl,_,z6m A c 0,rfl⟩
    rintro _ ⟨X0,hX0,rfl⟩
    refine z7 hT ?_
    refine⟨by decide,?_⟩
    refine y8 ?_
    refine Q2 (fun n s=>∃ (k:Nat) (j:Int),n+k=c∧j=k∧s=⟨⟨43,[(1,i64 c),(2,.clo (.func fn) [.p x,.p y]),(7,.msl 0 1 0 1),(13,i64 1),(8,i64 0),(14,i64 0),(26,i64 c),(27,i64 j)]⟩,[.cells y7 [.msl 1 1 0 c],.row y9 1 (bx (X7 A c 0 k))]⟩) c ⟨⟨43,_⟩,_⟩ (z6 [0,1] [1,2,7,13,8,14,26,27] rfl) ⟨0,0,by omega,rfl,by rw[hX0];rfl⟩ ?_
    rintro n2 s ⟨k,j,hnk,hj,rfl⟩
    refine z7 hT ?_
    refine u6 (y6 (u7 (fun h=>?_) (fun h=>?_)))
    ·have h:=k0z (show decide (j<(c:Int))=true from h)
     refine x6 ?_
     have w:=hA 0 k (by decide) (by omega)
     rw[← hj]at w
     have w:AF k0q fn ([i64 0,i64 j]++[.p x,.p y]) [] (Q8 (.p (u8 (A 0 k))) []):=w
     have hset:=q0y A (c:=c) 0 (k:=k) (by omega)
     have hjk:0+j.toNat=k:=by omega
     have hlen:(bx (X7 A c 0 k)).length=c:=by rw[Z0,W5 A 0 (by omega)]
     obtain⟨v,hv⟩:∃ v,(bx (X7 A c 0 k))[0+j.toNat]?=some [u8 v]:=by rw[hjk];exact q7q (by rw[W5 A 0 (by omega)];omega)
     refine Q3 (fun st=>∃ X,X=bx (X7 A c 0 (k+1))∧st=⟨⟨43,[(1,i64 c),(2,.clo (.func fn) [.p x,.p y]),(7,.msl 0 1 0 1),(13,i64 1),(8,i64 0),(14,i64 0),(26,i64 c),(27,i64 j)]⟩,[.cells y7 [.msl 1 1 0 c],.row y9 1 (X)]⟩) (y8 (z7 hT ?_)) ?_
     ·refine Q9 [10] [] hT u5 (by rfl) ?_
      refine⟨by decide,?_⟩
      refine⟨_,Q4 w _ rfl rfl,?_⟩
      refine⟨⟨by omega,by omega⟩,?_⟩
      refine Z1 hv ?_
      repeat first|refine⟨rfl,?_⟩|refine⟨⟨_,Q4 w _ rfl rfl,rfl⟩,?_⟩|refine⟨⟨by decide,rfl⟩,?_⟩|refine⟨⟨⟨by omega,by omega⟩,rfl⟩,?_⟩
      refine⟨_,z6 [0,1] [1,2,7,13,8,14,26,27] rfl,_,?_,rfl⟩
      show List.set (bx (X7 A c 0 k)) (0+j.toNat) [u8 (A 0 k)]=_
      rw[hjk,hset]
     ·rintro _ ⟨X,rfl,rfl⟩
      refine z8 hT ?_
      exact⟨n2 - 1,by omega,_,z6 [0,1] [1,2,7,13,8,14,26,27] rfl,k+1,IntKind.i64.wrap (j+1),by omega,by rw[Q0 _ (by omega) (by omega)];omega,rfl⟩
    ·have h:=k0y (show decide (j<(c:Int))=false from h)
     rw[show k=c by omega,q0x]
     refine Q6 ?_
     exact⟨z6 [0,1] [1,2,7,13,8,14] rfl,trivial⟩
   ·refine z8 hT ?_
    exact⟨0,by decide,_,z6 [0,1] [1,2,7,13,14] rfl,(.inr ⟨rfl,rfl⟩)⟩
  ·refine z7 hT ?_
   refine u6 (y6 ?_)
   refine Q6 ?_
   exact⟨z6 [0,1] [7] rfl,trivial⟩
 refine z7 hT ?_
 refine u0 ?_
 exact x7 [0,1] ⟨rfl,rfl⟩ rfl
theorem x5k (fn:FuncId)(x y:PV)(c:Nat)(hc:c≤4096)(A:Nat→Nat→UInt8)(hA:∀ i k:Nat,i<2→k<c→AF k0q fn (i64 i :: i64 k :: [.p x,.p y]) [] (Q8 (.p (u8 (A i k))) [])) :
 AF k0q q2n [i64 2,i64 c,.clo (.func fn) [.p x,.p y]] [] (Q8 (.msl 0 1 0 2) [.cells y7 [.msl 1 1 0 c,.msl 2 1 0 c],.row y9 1 (bx (Z4 A c 0)),.row y9 1 (bx (Z4 A c 1))]):=by
 refine Q7 hT Tryz.func201 rfl rfl Tryz.ntmps201 rfl ?_
 refine z7 hT ?_
 refine w9 ⟨⟨43,[(1,i64 c),(2,.clo (.func fn) [.p x,.p y]),(7,.msl 0 1 0 2)]⟩,[.cells y7 [.p (.raw (.slice none 0 0)),.p (.raw (.slice none 0 0))]]⟩ True (z8 hT ?_) (fun _=>?_)
 ·refine⟨⟨rfl,by decide,by decide,by decide⟩,?_⟩
  exact⟨Wk.trans (q0k 0 [.raw (.slice none 0 0),.raw (.slice none 0 0)] rfl rfl (by decide)) (z6 [0] [1,2,7] rfl),trivial⟩
 refine w9 ⟨⟨43,[(7,.msl 0 1 0 2)]⟩,[.cells y7 [.msl 1 1 0 c,.msl 2 1 0 c],.row y9 1 (bx (Z4 A c 0)),.row y9 1 (bx (Z4 A c 1))]⟩ True (z7 hT ?_) (fun _=>?_)
 ·refine y8 ?_
  refine Q2 (fun n s=>(n=2∧s=⟨⟨43,[(1,i64 c),(2,.clo (.func fn) [.p x,.p y]),(7,.msl 0 1 0 2),(13,i64 2),(14,i64 0)]⟩,[.cells y7 [.p (.raw (.slice none 0 0)),.p (.raw (.slice none 0 0))]]⟩)∨(n=1∧s=⟨⟨43,[(1,i64 c),(2,.clo (.func fn) [.p x,.p y]),(7,.msl 0 1 0 2),(13,i64 2),(14,i64 1)]⟩,[.cells y7 [.msl 1 1 0 c,.p (.raw (.slice none 0 0))],.row y9 1 (bx (Z4 A c 0))]⟩)∨(n=0∧s=⟨⟨43,[(1,i64 c),(2,.clo (.func fn) [.p x,.p y]),(7,.msl 0 1 0 2),(13,i64 2),(14,i64 2)]⟩,[.cells y7 [.msl 1 1 0 c,.msl 2 1 0 c],.row y9 1 (bx (Z4 A c 0)),.row y9 1 (bx (Z4 A c 1))]⟩)) 2 ⟨⟨43,_⟩,_⟩ (z6 [0] [1,2,7,13,14] rfl) (.inl ⟨rfl,rfl⟩) ?_
  rintro n s (⟨rfl,rfl⟩|⟨rfl,rfl⟩|⟨rfl,rfl⟩)
  ·refine z7 hT ?_
   refine u6 (y6 ?_)
   refine x6 ?_
   refine w9 ⟨⟨43,[(1,i64 c),(2,.clo (.func fn) [.p x,.p y]),(7,.msl 0 1 0 2),(13,i64 2),(8,i64 0),(14,i64 0)]⟩,[.cells y7 [.msl 1 1 0 c,.p (.raw (.slice none 0 0))],.row y9 1 (bx (Z4 A c 0))]⟩ True (y8 ?_) (fun _=>?_)
   ·refine z7 hT ?_
    refine Q3 (fun st=>∃ X,X=bx (X7 A c 0 0)∧st=⟨⟨43,[(1,i64 c),(2,.clo (.func fn) [.p x,.p y]),(7,.msl 0 1 0 2),(13,i64 2),(8,i64 0),(14,i64 0)]⟩,[.cells y7 [.msl 1 1 0 c,.p (.raw (.slice none 0 0))],.row y9 1 (X)]⟩) (z8 hT ?_) ?_
    ·refine⟨⟨rfl,by omega,by show (c:Int)*1≤_;omega,by omega⟩,?_⟩
     refine⟨by decide,?_⟩
     exact⟨_,z6 [0,1] [1,2,7,13,8,14] rfl,_,z6m A c 0,rfl⟩
    rintro _ ⟨X0,hX0,rfl⟩
    refine z7 hT ?_
    refine⟨by decide,?_⟩
    refine y8 ?_
    refine Q2 (fun n s=>∃ (k:Nat) (j:Int),n+k=c∧j=k∧s=⟨⟨43,[(1,i64 c),(2,.clo (.func fn) [.p x,.p y]),(7,.msl 0 1 0 2),(13,i64 2),(8,i64 0),(14,i64 0),(26,i64 c),(27,i64 j)]⟩,[.cells y7 [.msl 1 1 0 c,.p (.raw (.slice none 0 0))],.row y9 1 (bx (X7 A c 0 k))]⟩) c ⟨⟨43,_⟩,_⟩ (z6 [0,1] [1,2,7,13,8,14,26,27] rfl) ⟨0,0,by omega,rfl,by rw[hX0];rfl⟩ ?_
    rintro n2 s ⟨k,j,hnk,hj,rfl⟩
    refine z7 hT ?_
    refine u6 (y6 (u7 (fun h=>?_) (fun h=>?_)))
    ·have h:=k0z (show decide (j<(c:Int))=true from h)
     refine x6 ?_
     have w:=hA 0 k (by decide) (by omega)
     rw[← hj]at w
     have w:AF k0q fn ([i64 0,i64 j]++[.p x,.p y]) [] (Q8 (.p (u8 (A 0 k))) []):=w
     have hset:=q0y A (c:=c) 0 (k:=k) (by omega)
     have hjk:0+j.toNat=k:=by omega
     have hlen:(bx (X7 A c 0 k)).length=c:=by rw[Z0,W5 A 0 (by omega)]
     obtain⟨v,hv⟩:∃ v,(bx (X7 A c 0 k))[0+j.toNat]?=some [u8 v]:=by rw[hjk];exact q7q (by rw[W5 A 0 (by omega)];omega)
     refine Q3 (fun st=>∃ X,X=bx (X7 A c 0 (k+1))∧st=⟨⟨43,[(1,i64 c),(2,.clo (.func fn) [.p x,.p y]),(7,.msl 0 1 0 2),(13,i64 2),(8,i64 0),(14,i64 0),(26,i64 c),(27,i64 j)]⟩,[.cells y7 [.msl 1 1 0 c,.p (.raw (.slice none 0 0))],.row y9 1 (X)]⟩) (y8 (z7 hT ?_)) ?_
     ·refine Q9 [10] [] hT u5 (by rfl) ?_
      refine⟨by decide,?_⟩
      refine⟨_,Q4 w _ rfl rfl,?_⟩
      refine⟨⟨by omega,by omega⟩,?_⟩
      refine Z1 hv ?_
      repeat first|refine⟨rfl,?_⟩|refine⟨⟨_,Q4 w _ rfl rfl,rfl⟩,?_⟩|refine⟨⟨by decide,rfl⟩,?_⟩|refine⟨⟨⟨by omega,by omega⟩,rfl⟩,?_⟩
      refine⟨_,z6 [0,1] [1,2,7,13,8,14,26,27] rfl,_,?_,rfl⟩
      show List.set (bx (X7 A c 0 k)) (0+j.toNat) [u8 (A 0 k)]=_
      rw[hjk,hset]
     ·rintro _ ⟨X,rfl,rfl⟩
      refine z8 hT ?_
      exact⟨n2 - 1,by omega,_,z6 [0,1] [1,2,7,13,8,14,26,27] rfl,k+1,IntKind.i64.wrap (j+1),by omega,by rw[Q0 _ (by omega) (by omega)];omega,rfl⟩
    ·have h:=k0y (show decide (j<(c:Int))=false from h)
     rw[show k=c by omega,q0x]
     refine Q6 ?_
     exact⟨z6 [0,1] [1,2,7,13,8,14] rfl,trivial⟩
   ·refine z8 hT ?_
    exact⟨1,by decide,_,z6 [0,1] [1,2,7,13,14] rfl,(.inr (.inl ⟨rfl,rfl⟩))⟩
  ·refine z7 hT ?_
   refine u6 (y6 ?_)
   refine x6 ?_
   refine w9 ⟨⟨43,[(1,i64 c),(2,.clo (.func fn) [.p x,.p y]),(7,.msl 0 1 0 2),(13,i64 2),(8,i64 1),(14,i64 1)]⟩,[.cells y7 [.msl 1 1 0 c,.msl 2 1 0 c],.row y9 1 (bx (Z4 A c 0)),.row y9 1 (bx (Z4 A c 1))]⟩ True (y8 ?_) (fun _=>?_)
   ·refine z7 hT ?_
    refine Q3 (fun st=>∃ X,X=bx (X7 A c 1 0)∧st=⟨⟨43,[(1,i64 c),(2,.clo (.func fn) [.p x,.p y]),(7,.msl 0 1 0 2),(13,i64 2),(8,i64 1),(14,i64 1)]⟩,[.cells y7 [.msl 1 1 0 c,.msl 2 1 0 c],.row y9 1 (bx (Z4 A c 0)),.row y9 1 (X)]⟩) (z8 hT ?_) ?_
    ·refine⟨⟨rfl,by omega,by show (c:Int)*1≤_;omega,by omega⟩,?_⟩
     refine⟨by decide,?_⟩
     exact⟨_,z6 [0,1,2] [1,2,7,13,8,14] rfl,_,z6m A c 1,rfl⟩
    rintro _ ⟨X0,hX0,rfl⟩
    refine z7 hT ?_
    refine⟨by decide,?_⟩
    refine y8 ?_
    refine Q2 (fun n s=>∃ (k:Nat) (j:Int),n+k=c∧j=k∧s=⟨⟨43,[(1,i64 c),(2,.clo (.func fn) [.p x,.p y]),(7,.msl 0 1 0 2),(13,i64 2),(8,i64 1),(14,i64 1),(26,i64 c),(27,i64 j)]⟩,[.cells y7 [.msl 1 1 0 c,.msl 2 1 0 c],.row y9 1 (bx (Z4 A c 0)),.row y9 1 (bx (X7 A c 1 k))]⟩) c ⟨⟨43,_⟩,_⟩ (z6 [0,1,2] [1,2,7,13,8,14,26,27] rfl) ⟨0,0,by omega,rfl,by rw[hX0];rfl⟩ ?_
    rintro n2 s ⟨k,j,hnk,hj,rfl⟩
    refine z7 hT ?_
    refine u6 (y6 (u7 (fun h=>?_) (fun h=>?_)))
    ·have h:=k0z (show decide (j<(c:Int))=true from h)
     refine x6 ?_
     have w:=hA 1 k (by decide) (by omega)
     rw[← hj]at w
     have w:AF k0q fn ([i64 1,i64 j]++[.p x,.p y]) [] (Q8 (.p (u8 (A 1 k))) []):=w
     have hset:=q0y A (c:=c) 1 (k:=k) (by omega)
     have hjk:0+j.toNat=k:=by omega
     have hlen:(bx (X7 A c 1 k)).length=c:=by rw[Z0,W5 A 1 (by omega)]
     obtain⟨v,hv⟩:∃ v,(bx (X7 A c 1 k))[0+j.toNat]?=some [u8 v]:=by rw[hjk];exact q7q (by rw[W5 A 1 (by omega)];omega)
     refine Q3 (fun st=>∃ X,X=bx (X7 A c 1 (k+1))∧st=⟨⟨43,[(1,i64 c),(2,.clo (.func fn) [.p x,.p y]),(7,.msl 0 1 0 2),(13,i64 2),(8,i64 1),(14,i64 1),(26,i64 c),(27,i64 j)]⟩,[.cells y7 [.msl 1 1 0 c,.msl 2 1 0 c],.row y9 1 (bx (Z4 A c 0)),.row y9 1 (X)]⟩) (y8 (z7 hT ?_)) ?_
     ·refine Q9 [10] [] hT u5 (by rfl) ?_
      refine⟨by decide,?_⟩
      refine⟨_,Q4 w _ rfl rfl,?_⟩
      refine⟨⟨by omega,by omega⟩,?_⟩
      refine Z1 hv ?_
      repeat first|refine⟨rfl,?_⟩|refine⟨⟨_,Q4 w _ rfl rfl,rfl⟩,?_⟩|refine⟨⟨by decide,rfl⟩,?_⟩|refine⟨⟨⟨by omega,by omega⟩,rfl⟩,?_⟩
      refine⟨_,z6 [0,1,2] [1,2,7,13,8,14,26,27] rfl,_,?_,rfl⟩
      show List.set (bx (X7 A c 1 k)) (0+j.toNat) [u8 (A 1 k)]=_
      rw[hjk,hset]
     ·rintro _ ⟨X,rfl,rfl⟩
      refine z8 hT ?_
      exact⟨n2 - 1,by omega,_,z6 [0,1,2] [1,2,7,13,8,14,26,27] rfl,k+1,IntKind.i64.wrap (j+1),by omega,by rw[Q0 _ (by omega) (by omega)];omega,rfl⟩
    ·have h:=k0y (show decide (j<(c:Int))=false from h)
     rw[show k=c by omega,q0x]
     refine Q6 ?_
     exact⟨z6 [0,1,2] [1,2,7,13,8,14] rfl,trivial⟩
   ·refine z8 hT ?_
    exact⟨0,by decide,_,z6 [0,1,2] [1,2,7,13,14] rfl,(.inr (.inr ⟨rfl,rfl⟩))⟩
  ·refine z7 hT ?_
   refine u6 (y6 ?_)
   refine Q6 ?_
   exact⟨z6 [0,1,2] [7] rfl,trivial⟩
 refine z7 hT ?_
 refine u0 ?_
 exact x7 [0,1,2] ⟨rfl,rfl⟩ rfl
theorem x5m (fn:FuncId)(x y:PV)(c:Nat)(hc:c≤4096)(A:Nat→Nat→UInt8)(hA:∀ i k:Nat,i<3→k<c→AF k0q fn (i64 i :: i64 k :: [.p x,.p y]) [] (Q8 (.p (u8 (A i k))) [])) :
 AF k0q q2n [i64 3,i64 c,.clo (.func fn) [.p x,.p y]] [] (Q8 (.msl 0 1 0 3) [.cells y7 [.msl 1 1 0 c,.msl 2 1 0 c,.msl 3 1 0 c],.row y9 1 (bx (Z4 A c 0)),.row y9 1 (bx (Z4 A c 1)),.row y9 1 (bx (Z4 A c 2))]):=by
 refine Q7 hT Tryz.func201 rfl rfl Tryz.ntmps201 rfl ?_
 refine z7 hT ?_
 refine w9 ⟨⟨43,[(1,i64 c),(2,.clo (.func fn) [.p x,.p y]),(7,.msl 0 1 0 3)]⟩,[.cells y7 [.p (.raw (.slice none 0 0)),.p (.raw (.slice none 0 0)),.p (.raw (.slice none 0 0))]]⟩ True (z8 hT ?_) (fun _=>?_)
 ·refine⟨⟨rfl,by decide,by decide,by decide⟩,?_⟩
  exact⟨Wk.trans (q0k 0 [.raw (.slice none 0 0),.raw (.slice none 0 0),.raw (.slice none 0 0)] rfl rfl (by decide)) (z6 [0] [1,2,7] rfl),trivial⟩
 refine w9 ⟨⟨43,[(7,.msl 0 1 0 3)]⟩,[.cells y7 [.msl 1 1 0 c,.msl 2 1 0 c,.msl 3 1 0 c],.row y9 1 (bx (Z4 A c 0)),.row y9 1 (bx (Z4 A c 1)),.row y9 1 (bx (Z4 A c 2))]⟩ True (z7 hT ?_) (fun _=>?_)
 ·refine y8 ?_
  refine Q2 (fun n s=>(n=3∧s=⟨⟨43,[(1,i64 c),(2,.clo (.func fn) [.p x,.p y]),(7,.msl 0 1 0 3),(13,i64 3),(14,i64 0)]⟩,[.cells y7 [.p (.raw (.slice none 0 0)),.p (.raw (.slice none 0 0)),.p (.raw (.slice none 0 0))]]⟩)∨(n=2∧s=⟨⟨43,[(1,i64 c),(2,.clo (.func fn) [.p x,.p y]),(7,.msl 0 1 0 3),(13,i64 3),(14,i64 1)]⟩,[.cells y7 [.msl 1 1 0 c,.p (.raw (.slice none 0 0)),.p (.raw (.slice none 0 0))],.row y9 1 (bx (Z4 A c 0))]⟩)∨(n=1∧s=⟨⟨43,[(1,i64 c),(2,.clo (.func fn) [.p x,.p y]),(7,.msl 0 1 0 3),(13,i64 3),(14,i64 2)]⟩,[.cells y7 [.msl 1 1 0 c,.msl 2 1 0 c,.p (.raw (.slice none 0 0))],.row y9 1 (bx (Z4 A c 0)),.row y9 1 (bx (Z4 A c 1))]⟩)∨(n=0∧s=⟨⟨43,[(1,i64 c),(2,.clo (.func fn) [.p x,.p y]),(7,.msl 0 1 0 3),(13,i64 3),(14,i64 3)]⟩,[.cells y7 [.msl 1 1 0 c,.msl 2 1 0 c,.msl 3 1 0 c],.row y9 1 (bx (Z4 A c 0)),.row y9 1 (bx (Z4 A c 1)),.row y9 1 (bx (Z4 A c 2))]⟩)) 3 ⟨⟨43,_⟩,_⟩ (z6 [0] [1,2,7,13,14] rfl) (.inl ⟨rfl,rfl⟩) ?_
  rintro n s (⟨rfl,rfl⟩|⟨rfl,rfl⟩|⟨rfl,rfl⟩|⟨rfl,rfl⟩)
  ·refine z7 hT ?_
   refine u6 (y6 ?_)
   refine x6 ?_
   refine w9 ⟨⟨43,[(1,i64 c),(2,.clo (.func fn) [.p x,.p y]),(7,.msl 0 1 0 3),(13,i64 3),(8,i64 0),(14,i64 0)]⟩,[.cells y7 [.msl 1 1 0 c,.p (.raw (.slice none 0 0)),.p (.raw (.slice none 0 0))],.row y9 1 (bx (Z4 A c 0))]⟩ True (y8 ?_) (fun _=>?_)
   ·refine z7 hT ?_
    refine Q3 (fun st=>∃ X,X=bx (X7 A c 0 0)∧st=⟨⟨43,[(1,i64 c),(2,.clo (.func fn) [.p x,.p y]),(7,.msl 0 1 0 3),(13,i64 3),(8,i64 0),(14,i64 0)]⟩,[.cells y7 [.msl 1 1 0 c,.p (.raw (.slice none 0 0)),.p (.raw (.slice none 0 0))],.row y9 1 (X)]⟩) (z8 hT ?_) ?_
    ·refine⟨⟨rfl,by omega,by show (c:Int)*1≤_;omega,by omega⟩,?_⟩
     refine⟨by decide,?_⟩
     exact⟨_,z6 [0,1] [1,2,7,13,8,14] rfl,_,z6m A c 0,rfl⟩
    rintro _ ⟨X0,hX0,rfl⟩
    refine z7 hT ?_
    refine⟨by decide,?_⟩
    refine y8 ?_
    refine Q2 (fun n s=>∃ (k:Nat) (j:Int),n+k=c∧j=k∧s=⟨⟨43,[(1,i64 c),(2,.clo (.func fn) [.p x,.p y]),(7,.msl 0 1 0 3),(13,i64 3),(8,i64 0),(14,i64 0),(26,i64 c),(27,i64 j)]⟩,[.cells y7 [.msl 1 1 0 c,.p (.raw (.slice none 0 0)),.p (.raw (.slice none 0 0))],.row y9 1 (bx (X7 A c 0 k))]⟩) c ⟨⟨43,_⟩,_⟩ (z6 [0,1] [1,2,7,13,8,14,26,27] rfl) ⟨0,0,by omega,rfl,by rw[hX0];rfl⟩ ?_
    rintro n2 s ⟨k,j,hnk,hj,rfl⟩
    refine z7 hT ?_
    refine u6 (y6 (u7 (fun h=>?_) (fun h=>?_)))
    ·have h:=k0z (show decide (j<(c:Int))=true from h)
     refine x6 ?_
     have w:=hA 0 k (by decide) (by omega)
     rw[← hj]at w
     have w:AF k0q fn ([i64 0,i64 j]++[.p x,.p y]) [] (Q8 (.p (u8 (A 0 k))) []):=w
     have hset:=q0y A (c:=c) 0 (k:=k) (by omega)
     have hjk:0+j.toNat=k:=by omega
     have hlen:(bx (X7 A c 0 k)).length=c:=by rw[Z0,W5 A 0 (by omega)]
     obtain⟨v,hv⟩:∃ v,(bx (X7 A c 0 k))[0+j.toNat]?=some [u8 v]:=by rw[hjk];exact q7q (by rw[W5 A 0 (by omega)];omega)
     refine Q3 (fun st=>∃ X,X=bx (X7 A c 0 (k+1))∧st=⟨⟨43,[(1,i64 c),(2,.clo (.func fn) [.p x,.p y]),(7,.msl 0 1 0 3),(13,i64 3),(8,i64 0),(14,i64 0),(26,i64 c),(27,i64 j)]⟩,[.cells y7 [.msl 1 1 0 c,.p (.raw (.slice none 0 0)),.p (.raw (.slice none 0 0))],.row y9 1 (X)]⟩) (y8 (z7 hT ?_)) ?_
     ·refine Q9 [10] [] hT u5 (by rfl) ?_
      refine⟨by decide,?_⟩
      refine⟨_,Q4 w _ rfl rfl,?_⟩
      refine⟨⟨by omega,by omega⟩,?_⟩
      refine Z1 hv ?_
      repeat first|refine⟨rfl,?_⟩|refine⟨⟨_,Q4 w _ rfl rfl,rfl⟩,?_⟩|refine⟨⟨by decide,rfl⟩,?_⟩|refine⟨⟨⟨by omega,by omega⟩,rfl⟩,?_⟩
      refine⟨_,z6 [0,1] [1,2,7,13,8,14,26,27] rfl,_,?_,rfl⟩
      show List.set (bx (X7 A c 0 k)) (0+j.toNat) [u8 (A 0 k)]=_
      rw[hjk,hset]
     ·rintro _ ⟨X,rfl,rfl⟩
      refine z8 hT ?_
      exact⟨n2 - 1,by omega,_,z6 [0,1] [1,2,7,13,8,14,26,27] rfl,k+1,IntKind.i64.wrap (j+1),by omega,by rw[Q0 _ (by omega) (by omega)];omega,rfl⟩
    ·have h:=k0y (show decide (j<(c:Int))=false from h)
     rw[show k=c by omega,q0x]
     refine Q6 ?_
     exact⟨z6 [0,1] [1,2,7,13,8,14] rfl,trivial⟩
   ·refine z8 hT ?_
    exact⟨2,by decide,_,z6 [0,1] [1,2,7,13,14] rfl,(.inr (.inl ⟨rfl,rfl⟩))⟩
  ·refine z7 hT ?_
   refine u6 (y6 ?_)
   refine x6 ?_
   refine w9 ⟨⟨43,[(1,i64 c),(2,.clo (.func fn) [.p x,.p y]),(7,.msl 0 1 0 3),(13,i64 3),(8,i64 1),(14,i64 1)]⟩,[.cells y7 [.msl 1 1 0 c,.msl 2 1 0 c,.p (.raw (.slice none 0 0))],.row y9 1 (bx (Z4 A c 0)),.row y9 1 (bx (Z4 A c 1))]⟩ True (y8 ?_) (fun _=>?_)
   ·refine z7 hT ?_
    refine Q3 (fun st=>∃ X,X=bx (X7 A c 1 0)∧st=⟨⟨43,[(1,i64 c),(2,.clo (.func fn) [.p x,.p y]),(7,.msl 0 1 0 3),(13,i64 3),(8,i64 1),(14,i64 1)]⟩,[.cells y7 [.msl 1 1 0 c,.msl 2 1 0 c,.p (.raw (.slice none 0 0))],.row y9 1 (bx (Z4 A c 0)),.row y9 1 (X)]⟩) (z8 hT ?_) ?_
    ·refine⟨⟨rfl,by omega,by show (c:Int)*1≤_;omega,by omega⟩,?_⟩
     refine⟨by decide,?_⟩
     exact⟨_,z6 [0,1,2] [1,2,7,13,8,14] rfl,_,z6m A c 1,rfl⟩
    rintro _ ⟨X0,hX0,rfl⟩
    refine z7 hT ?_
    refine⟨by decide,?_⟩
    refine y8 ?_
    refine Q2 (fun n s=>∃ (k:Nat) (j:Int),n+k=c∧j=k∧s=⟨⟨43,[(1,i64 c),(2,.clo (.func fn) [.p x,.p y]),(7,.msl 0 1 0 3),(13,i64 3),(8,i64 1),(14,i64 1),(26,i64 c),(27,i64 j)]⟩,[.cells y7 [.msl 1 1 0 c,.msl 2 1 0 c,.p (.raw (.slice none 0 0))],.row y9 1 (bx (Z4 A c 0)),.row y9 1 (bx (X7 A c 1 k))]⟩) c ⟨⟨43,_⟩,_⟩ (z6 [0,1,2] [1,2,7,13,8,14,26,27] rfl) ⟨0,0,by omega,rfl,by rw[hX0];rfl⟩ ?_
    rintro n2 s ⟨k,j,hnk,hj,rfl⟩
    refine z7 hT ?_
    refine u6 (y6 (u7 (fun h=>?_) (fun h=>?_)))
    ·have h:=k0z (show decide (j<(c:Int))=true from h)
     refine x6 ?_
     have w:=hA 1 k (by decide) (by omega)
     rw[← hj]at w
     have w:AF k0q fn ([i64 1,i64 j]++[.p x,.p y]) [] (Q8 (.p (u8 (A 1 k))) []):=w
     have hset:=q0y A (c:=c) 1 (k:=k) (by omega)
     have hjk:0+j.toNat=k:=by omega
     have hlen:(bx (X7 A c 1 k)).length=c:=by rw[Z0,W5 A 1 (by omega)]
     obtain⟨v,hv⟩:∃ v,(bx (X7 A c 1 k))[0+j.toNat]?=some [u8 v]:=by rw[hjk];exact q7q (by rw[W5 A 1 (by omega)];omega)
     refine Q3 (fun st=>∃ X,X=bx (X7 A c 1 (k+1))∧st=⟨⟨43,[(1,i64 c),(2,.clo (.func fn) [.p x,.p y]),(7,.msl 0 1 0 3),(13,i64 3),(8,i64 1),(14,i64 1),(26,i64 c),(27,i64 j)]⟩,[.cells y7 [.msl 1 1 0 c,.msl 2 1 0 c,.p (.raw (.slice none 0 0))],.row y9 1 (bx (Z4 A c 0)),.row y9 1 (X)]⟩) (y8 (z7 hT ?_)) ?_
     ·refine Q9 [10] [] hT u5 (by rfl) ?_
      refine⟨by decide,?_⟩
      refine⟨_,Q4 w _ rfl rfl,?_⟩
      refine⟨⟨by omega,by omega⟩,?_⟩
      refine Z1 hv ?_
      repeat first|refine⟨rfl,?_⟩|refine⟨⟨_,Q4 w _ rfl rfl,rfl⟩,?_⟩|refine⟨⟨by decide,rfl⟩,?_⟩|refine⟨⟨⟨by omega,by omega⟩,rfl⟩,?_⟩
      refine⟨_,z6 [0,1,2] [1,2,7,13,8,14,26,27] rfl,_,?_,rfl⟩
      show List.set (bx (X7 A c 1 k)) (0+j.toNat) [u8 (A 1 k)]=_
      rw[hjk,hset]
     ·rintro _ ⟨X,rfl,rfl⟩
      refine z8 hT ?_
      exact⟨n2 - 1,by omega,_,z6 [0,1,2] [1,2,7,13,8,14,26,27] rfl,k+1,IntKind.i64.wrap (j+1),by omega,by rw[Q0 _ (by omega) (by omega)];omega,rfl⟩
    ·have h:=k0y (show decide (j<(c:Int))=false from h)
     rw[show k=c by omega,q0x]
     refine Q6 ?_
     exact⟨z6 [0,1,2] [1,2,7,13,8,14] rfl,trivial⟩
   ·refine z8 hT ?_
    exact⟨1,by decide,_,z6 [0,1,2] [1,2,7,13,14] rfl,(.inr (.inr (.inl ⟨rfl,rfl⟩)))⟩
  ·refine z7 hT ?_
   refine u6 (y6 ?_)
   refine x6 ?_
   refine w9 ⟨⟨43,[(1,i64 c),(2,.clo (.func fn) [.p x,.p y]),(7,.msl 0 1 0 3),(13,i64 3),(8,i64 2),(14,i64 2)]⟩,[.cells y7 [.msl 1 1 0 c,.msl 2 1 0 c,.msl 3 1 0 c],.row y9 1 (bx (Z4 A c 0)),.row y9 1 (bx (Z4 A c 1)),.row y9 1 (bx (Z4 A c 2))]⟩ True (y8 ?_) (fun _=>?_)
   ·refine z7 hT ?_
    refine Q3 (fun st=>∃ X,X=bx (X7 A c 2 0)∧st=⟨⟨43,[(1,i64 c),(2,.clo (.func fn) [.p x,.p y]),(7,.msl 0 1 0 3),(13,i64 3),(8,i64 2),(14,i64 2)]⟩,[.cells y7 [.msl 1 1 0 c,.msl 2 1 0 c,.msl 3 1 0 c],.row y9 1 (bx (Z4 A c 0)),.row y9 1 (bx (Z4 A c 1)),.row y9 1 (X)]⟩) (z8 hT ?_) ?_
    ·refine⟨⟨rfl,by omega,by show (c:Int)*1≤_;omega,by omega⟩,?_⟩
     refine⟨by decide,?_⟩
     exact⟨_,z6 [0,1,2,3] [1,2,7,13,8,14] rfl,_,z6m A c 2,rfl⟩
    rintro _ ⟨X0,hX0,rfl⟩
    refine z7 hT ?_
    refine⟨by decide,?_⟩
    refine y8 ?_
    refine Q2 (fun n s=>∃ (k:Nat) (j:Int),n+k=c∧j=k∧s=⟨⟨43,[(1,i64 c),(2,.clo (.func fn) [.p x,.p y]),(7,.msl 0 1 0 3),(13,i64 3),(8,i64 2),(14,i64 2),(26,i64 c),(27,i64 j)]⟩,[.cells y7 [.msl 1 1 0 c,.msl 2 1 0 c,.msl 3 1 0 c],.row y9 1 (bx (Z4 A c 0)),.row y9 1 (bx (Z4 A c 1)),.row y9 1 (bx (X7 A c 2 k))]⟩) c ⟨⟨43,_⟩,_⟩ (z6 [0,1,2,3] [1,2,7,13,8,14,26,27] rfl) ⟨0,0,by omega,rfl,by rw[hX0];rfl⟩ ?_
    rintro n2 s ⟨k,j,hnk,hj,rfl⟩
    refine z7 hT ?_
    refine u6 (y6 (u7 (fun h=>?_) (fun h=>?_)))
    ·have h:=k0z (show decide (j<(c:Int))=true from h)
     refine x6 ?_
     have w:=hA 2 k (by decide) (by omega)
     rw[← hj]at w
     have w:AF k0q fn ([i64 2,i64 j]++[.p x,.p y]) [] (Q8 (.p (u8 (A 2 k))) []):=w
     have hset:=q0y A (c:=c) 2 (k:=k) (by omega)
     have hjk:0+j.toNat=k:=by omega
     have hlen:(bx (X7 A c 2 k)).length=c:=by rw[Z0,W5 A 2 (by omega)]
     obtain⟨v,hv⟩:∃ v,(bx (X7 A c 2 k))[0+j.toNat]?=some [u8 v]:=by rw[hjk];exact q7q (by rw[W5 A 2 (by omega)];omega)
     refine Q3 (fun st=>∃ X,X=bx (X7 A c 2 (k+1))∧st=⟨⟨43,[(1,i64 c),(2,.clo (.func fn) [.p x,.p y]),(7,.msl 0 1 0 3),(13,i64 3),(8,i64 2),(14,i64 2),(26,i64 c),(27,i64 j)]⟩,[.cells y7 [.msl 1 1 0 c,.msl 2 1 0 c,.msl 3 1 0 c],.row y9 1 (bx (Z4 A c 0)),.row y9 1 (bx (Z4 A c 1)),.row y9 1 (X)]⟩) (y8 (z7 hT ?_)) ?_
     ·refine Q9 [10] [] hT u5 (by rfl) ?_
      refine⟨by decide,?_⟩
      refine⟨_,Q4 w _ rfl rfl,?_⟩
      refine⟨⟨by omega,by omega⟩,?_⟩
      refine Z1 hv ?_
      repeat first|refine⟨rfl,?_⟩|refine⟨⟨_,Q4 w _ rfl rfl,rfl⟩,?_⟩|refine⟨⟨by decide,rfl⟩,?_⟩|refine⟨⟨⟨by omega,by omega⟩,rfl⟩,?_⟩
      refine⟨_,z6 [0,1,2,3] [1,2,7,13,8,14,26,27] rfl,_,?_,rfl⟩
      show List.set (bx (X7 A c 2 k)) (0+j.toNat) [u8 (A 2 k)]=_
      rw[hjk,hset]
     ·rintro _ ⟨X,rfl,rfl⟩
      refine z8 hT ?_
      exact⟨n2 - 1,by omega,_,z6 [0,1,2,3] [1,2,7,13,8,14,26,27] rfl,k+1,IntKind.i64.wrap (j+1),by omega,by rw[Q0 _ (by omega) (by omega)];omega,rfl⟩
    ·have h:=k0y (show decide (j<(c:Int))=false from h)
     rw[show k=c by omega,q0x]
     refine Q6 ?_
     exact⟨z6 [0,1,2,3] [1,2,7,13,8,14] rfl,trivial⟩
   ·refine z8 hT ?_
    exact⟨0,by decide,_,z6 [0,1,2,3] [1,2,7,13,14] rfl,(.inr (.inr (.inr ⟨rfl,rfl⟩)))⟩
  ·refine z7 hT ?_
   refine u6 (y6 ?_)
   refine Q6 ?_
   exact⟨z6 [0,1,2,3] [7] rfl,trivial⟩
 refine z7 hT ?_
 refine u0 ?_
 exact x7 [0,1,2,3] ⟨rfl,rfl⟩ rfl
def z0b (a t:x8)(k:Nat):x8:=a.take k++t.drop k
theorem y8c {a t:x8}(h:a.length=t.length):z0b a t t.length=a:=by unfold z0b;rw[← h,List.take_length,h,List.drop_length,List.append_nil]
theorem y8d {a t:x8}(h:a.length=t.length){k:Nat}(hk:k<t.length):(z0b a t k)[k]?=some t[k]:=by
 unfold z0b
 rw[k1q (by rw[k2u];omega),k2u,List.getElem?_drop,show k+(k - min k a.length)=k by omega,k0w hk]
theorem y8e {a t:x8}(h:a.length=t.length){k:Nat}(hk:k<t.length){v:UInt8}(hv:a[k]?=some v):(bx (z0b a t k)).set k [u8 v]=bx (z0b a t (k+1)):=by
 have e:z0b a t (k+1)=(z0b a t k).set k v:=by
  unfold z0b
  rw[List.set_append_right _ _ (by rw[k2u];omega),k2u,show k - min k a.length=0 by omega,k2t,hv,List.append_assoc,List.drop_eq_getElem_cons hk]
  rfl
 rw[e]
 unfold bx
 rw[List.map_set]
theorem W6 {l:x8}{k:Nat}{v:UInt8}(h:l[k]?=some v):(bx l)[k]?=some [u8 v]:=by rw[bx,k1z,h];rfl
def q1v (x:UInt8)(t:x8):x8:=t.map fun v=>Gf.mul v x
def q2g (to row:x8)(x:UInt8):x8:=List.zipWith (fun a b=>a ^^^ Gf.mul x b) to row
theorem q8p {to row:x8}(x:UInt8)(h:to.length=row.length):(q2g to row x).length=to.length:=by unfold q2g;rw[List.length_zipWith];omega
theorem z5x (t:x8)(x:UInt8)(ht:t.length≤4096):AFm k0q 1 x8n [q3x,.msl 0 1 0 t.length,.p (u8 x)] [.row y9 1 (bx t)] (Q8 (.tup []) [.row y9 1 (bx (q1v x t))]):=by
 have hl:(q1v x t).length=t.length:=k1x _
 have wmul:=fun v=>w4h v x
 unfold q3x at wmul ⊢
 generalize fP=F at wmul ⊢
 obtain⟨n,hn⟩:∃ n,n=t.length:=⟨_,rfl⟩
 rw[← hn]
 refine Z5 1 hT Tryz.func209 rfl rfl Tryz.ntmps209 rfl rfl ?_
 refine z7 hT ?_
 refine y8 ?_
 refine Q2 (fun m s=>∃ (k:Nat) (j:Int),m+k=n∧j=k∧s=⟨⟨23,[(0,.p (.box F)),(1,.msl 0 1 0 n),(2,.p (u8 x)),(8,.msl 0 1 0 n),(9,i64 n),(10,i64 j)]⟩,[.row y9 1 (bx (z0b (q1v x t) t k))]⟩) n ⟨⟨23,_⟩,_⟩ (z6 [0] [0,1,2,8,9,10] rfl) ⟨0,0,by omega,rfl,rfl⟩ ?_
 rintro m s ⟨k,j,hmk,hj,rfl⟩
 refine z7 hT ?_
 refine u6 (y6 (u7 (fun h=>?_) (fun h=>?_)))
 ·have h:=k0z (show decide (j<(n:Int))=true from h)
  have hk:k<t.length:=by omega
  refine x6 ?_
  have hg:=y8d hl hk
  have hv:(q1v x t)[k]?=some (Gf.mul t[k] x):=by unfold q1v;rw[k1z,k0w hk];rfl
  have hset:=y8e hl hk hv
  have w:=wmul t[k]
  generalize t[k]=v at hg hset w hv
  generalize Gf.mul v x=u at hset w hv
  have hjk:0+j.toNat=k:=by omega
  have hgx:(bx (z0b (q1v x t) t k))[0+j.toNat]?=some [u8 v]:=by rw[hjk];exact W6 hg
  refine Q3 (fun st=>∃ X,X=bx (z0b (q1v x t) t (k+1))∧st=⟨⟨23,[(0,.p (.box F)),(1,.msl 0 1 0 n),(2,.p (u8 x)),(8,.msl 0 1 0 n),(9,i64 n),(10,i64 j)]⟩,[.row y9 1 X]⟩) (y8 ?_) ?_
  ·refine z7 hT ?_
   refine⟨⟨by omega,by omega⟩,?_⟩
   refine Z1 hgx ?_
   refine z8 hT ?_
   refine Q1 (Q4 w _ rfl rfl) ?_
   refine⟨⟨by omega,by omega⟩,?_⟩
   refine Z1 hgx ?_
   refine⟨_,z6 [0] [0,1,2,8,9,10] rfl,_,?_,rfl⟩
   show List.set (bx (z0b (q1v x t) t k)) (0+j.toNat) [u8 u]=_
   rw[hjk,hset]
  ·rintro _ ⟨X,rfl,rfl⟩
   refine z8 hT ?_
   exact⟨m - 1,by omega,_,z6 [0] [0,1,2,8,9,10] rfl,k+1,IntKind.i64.wrap (j+1),by omega,by rw[Q0 _ (by omega) (by omega)];omega,rfl⟩
 ·have h:=k0y (show decide (j<(n:Int))=false from h)
  rw[show k=t.length by omega,y8c hl]
  refine Q6 ?_
  exact x7 [0] ⟨rfl,rfl⟩ rfl
theorem y0f (to row:x8)(x:UInt8)(ht:to.length≤4096)(hr:to.length=row.length):AFm k0q 2 x1q [q3x,.msl 0 1 0 to.length,.msl 1 1 0 to.length,.p (u8 x)] [.row y9 1 (bx to),.row y9 1 (bx row)] (Q8 (.tup []) [.row y9 1 (bx (q2g to row x)),.row y9 1 (bx row)]):=by
 have hl:=q8p x hr
 have hbl:=Z0 row
 have wmul:=fun v=>w4h x v
 have wadd:=fun u v=>w4g q3x u v
 unfold q3x at wmul wadd ⊢
 generalize fP=F at wmul wadd ⊢
 obtain⟨n,hn⟩:∃ n,n=to.length:=⟨_,rfl⟩
 rw[← hn]
 refine Z5 2 hT Tryz.func203 rfl rfl Tryz.ntmps203 rfl rfl ?_
 refine z7 hT ?_
 refine y8 ?_
 refine Q2 (fun m s=>∃ (k:Nat) (j:Int),m+k=n∧j=k∧s=⟨⟨31,[(0,.p (.box F)),(1,.msl 0 1 0 n),(3,.p (u8 x)),(10,.msl 1 1 0 n),(11,i64 n),(12,i64 j)]⟩,[.row y9 1 (bx (z0b (q2g to row x) to k)),.row y9 1 (bx row)]⟩) n ⟨⟨31,_⟩,_⟩ (z6 [0,1] [0,1,3,10,11,12] rfl) ⟨0,0,by omega,rfl,rfl⟩ ?_
 rintro m s ⟨k,j,hmk,hj,rfl⟩
 refine z7 hT ?_
 refine u6 (y6 (u7 (fun h=>?_) (fun h=>?_)))
 ·have h:=k0z (show decide (j<(n:Int))=true from h)
  have hk:k<to.length:=by omega
  have hk2:k<row.length:=by omega
  refine x6 ?_
  have hg:=y8d hl hk
  have hrg:=k0w hk2
  have hv:(q2g to row x)[k]?=some (to[k] ^^^ Gf.mul x row[k]):=by unfold q2g;rw[List.getElem?_zipWith,k0w hk,k0w hk2]
  have hset:=y8e hl hk hv
  have w:=wmul row[k]
  have w2:=wadd to[k] (Gf.mul x row[k])
  generalize to[k]=u at hg hset w2 hv
  generalize row[k]=v at hrg hset w w2 hv
  generalize Gf.mul x v=p at hset w w2 hv
  generalize u ^^^ p=q at hset w2 hv
  have hjk:0+j.toNat=k:=by omega
  have hgx:(bx (z0b (q2g to row x) to k))[0+j.toNat]?=some [u8 u]:=by rw[hjk];exact W6 hg
  have hrx:(bx row)[0+j.toNat]?=some [u8 v]:=by rw[show 0+j.toNat=k by omega];exact W6 hrg
  refine Q3 (fun st=>∃ X,X=bx (z0b (q2g to row x) to (k+1))∧st=⟨⟨31,[(0,.p (.box F)),(1,.msl 0 1 0 n),(3,.p (u8 x)),(10,.msl 1 1 0 n),(11,i64 n),(12,i64 j)]⟩,[.row y9 1 (X),.row y9 1 (bx row)]⟩) (y8 ?_) ?_
  ·refine z7 hT ?_
   refine⟨⟨by omega,by omega⟩,?_⟩
   refine Z1 hrx ?_
   refine Q9 [13] [] hT u5 (by rfl) ?_
   refine⟨⟨by omega,by omega⟩,?_⟩
   refine Z1 hgx ?_
   refine⟨_,Q4 w _ rfl rfl,?_⟩
   refine⟨_,Q4 w2 _ rfl rfl,?_⟩
   refine⟨⟨by omega,by omega⟩,?_⟩
   refine Z1 hgx ?_
   repeat first|refine⟨rfl,?_⟩|refine⟨⟨_,Q4 w _ rfl rfl,rfl⟩,?_⟩|refine⟨⟨_,Q4 w2 _ rfl rfl,rfl⟩,?_⟩|refine⟨⟨⟨by omega,by omega⟩,rfl⟩,?_⟩|refine⟨Z1 hgx rfl,?_⟩
   refine⟨_,z6 [0,1] [0,1,3,10,11,12] rfl,_,?_,rfl⟩
   show List.set (bx (z0b (q2g to row x) to k)) (0+j.toNat) [u8 q]=_
   rw[hjk,hset]
  ·rintro _ ⟨X,rfl,rfl⟩
   refine z8 hT ?_
   exact⟨m - 1,by omega,_,z6 [0,1] [0,1,3,10,11,12] rfl,k+1,IntKind.i64.wrap (j+1),by omega,by rw[Q0 _ (by omega) (by omega)];omega,rfl⟩
 ·have h:=k0y (show decide (j<(n:Int))=false from h)
  rw[show k=to.length by omega,y8c hl]
  refine Q6 ?_
  exact x7 [0,1] ⟨rfl,rfl⟩ rfl
theorem q7d (to row:x8)(x:UInt8)(ht:to.length≤4096)(hr:to.length=row.length):AFm k0q 1 x1q [q3x,.msl 0 1 0 to.length,bA row,.p (u8 x)] [.row y9 1 (bx to)] (Q8 (.tup []) [.row y9 1 (bx (q2g to row x))]):=by
 have hl:=q8p x hr
 have hbl:=Z0 row
 have wmul:=fun v=>w4h x v
 have wadd:=fun u v=>w4g q3x u v
 unfold q3x at wmul wadd ⊢
 generalize fP=F at wmul wadd ⊢
 obtain⟨n,hn⟩:∃ n,n=to.length:=⟨_,rfl⟩
 rw[← hn]
 refine Z5 1 hT Tryz.func203 rfl rfl Tryz.ntmps203 rfl rfl ?_
 refine z7 hT ?_
 refine y8 ?_
 refine Q2 (fun m s=>∃ (k:Nat) (j:Int),m+k=n∧j=k∧s=⟨⟨31,[(0,.p (.box F)),(1,.msl 0 1 0 n),(3,.p (u8 x)),(10,bA row),(11,i64 n),(12,i64 j)]⟩,[.row y9 1 (bx (z0b (q2g to row x) to k))]⟩) n ⟨⟨31,_⟩,_⟩ (z6 [0] [0,1,3,10,11,12] rfl) ⟨0,0,by omega,rfl,by rw[hn,hr,← hbl];rfl⟩ ?_
 rintro m s ⟨k,j,hmk,hj,rfl⟩
 refine z7 hT ?_
 refine u6 (y6 (u7 (fun h=>?_) (fun h=>?_)))
 ·have h:=k0z (show decide (j<(n:Int))=true from h)
  have hk:k<to.length:=by omega
  have hk2:k<row.length:=by omega
  refine x6 ?_
  have hg:=y8d hl hk
  have hrg:=k0w hk2
  have hv:(q2g to row x)[k]?=some (to[k] ^^^ Gf.mul x row[k]):=by unfold q2g;rw[List.getElem?_zipWith,k0w hk,k0w hk2]
  have hset:=y8e hl hk hv
  have w:=wmul row[k]
  have w2:=wadd to[k] (Gf.mul x row[k])
  generalize to[k]=u at hg hset w2 hv
  generalize row[k]=v at hrg hset w w2 hv
  generalize Gf.mul x v=p at hset w w2 hv
  generalize u ^^^ p=q at hset w2 hv
  have hjk:0+j.toNat=k:=by omega
  have hgx:(bx (z0b (q2g to row x) to k))[0+j.toNat]?=some [u8 u]:=by rw[hjk];exact W6 hg
  have hrx:(bx row)[j.toNat]?=some [u8 v]:=by rw[show j.toNat=k by omega];exact W6 hrg
  refine Q3 (fun st=>∃ X,X=bx (z0b (q2g to row x) to (k+1))∧st=⟨⟨31,[(0,.p (.box F)),(1,.msl 0 1 0 n),(3,.p (u8 x)),(10,bA row),(11,i64 n),(12,i64 j)]⟩,[.row y9 1 (X)]⟩) (y8 ?_) ?_
  ·refine z7 hT ?_
   refine⟨by omega,Z1 hrx ?_⟩
   refine Q9 [13] [] hT u5 (by rfl) ?_
   refine⟨⟨by omega,by omega⟩,?_⟩
   refine Z1 hgx ?_
   refine⟨_,Q4 w _ rfl rfl,?_⟩
   refine⟨_,Q4 w2 _ rfl rfl,?_⟩
   refine⟨⟨by omega,by omega⟩,?_⟩
   refine Z1 hgx ?_
   repeat first|refine⟨rfl,?_⟩|refine⟨⟨_,Q4 w _ rfl rfl,rfl⟩,?_⟩|refine⟨⟨_,Q4 w2 _ rfl rfl,rfl⟩,?_⟩|refine⟨⟨⟨by omega,by omega⟩,rfl⟩,?_⟩|refine⟨Z1 hgx rfl,?_⟩
   refine⟨_,z6 [0] [0,1,3,10,11,12] rfl,_,?_,rfl⟩
   show List.set (bx (z0b (q2g to row x) to k)) (0+j.toNat) [u8 q]=_
   rw[hjk,hset]
  ·rintro _ ⟨X,rfl,rfl⟩
   refine z8 hT ?_
   exact⟨m - 1,by omega,_,z6 [0] [0,1,3,10,11,12] rfl,k+1,IntKind.i64.wrap (j+1),by omega,by rw[Q0 _ (by omega) (by omega)];omega,rfl⟩
 ·have h:=k0y (show decide (j<(n:Int))=false from h)
  rw[show k=to.length by omega,y8c hl]
  refine Q6 ?_
  exact x7 [0] ⟨rfl,rfl⟩ rfl
end Go.Proofs.YtkjklhcfgbaceaaGreat.AL
