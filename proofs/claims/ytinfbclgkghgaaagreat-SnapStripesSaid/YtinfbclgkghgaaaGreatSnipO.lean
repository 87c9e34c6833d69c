/- A part of the proof. -/
import Derived.Laws.StructEq
import Derived.ChangeKeysEq
import Derived.Test.YtinfbclgkghgaaaGreatSnipN
open Option.some renaming inj→k0y
open List renaming getElem?_eq_getElem→k0x,getD_eq_getElem?_getD→k0w,getElem?_eq_some_iff→k0u,getElem?_append_left→k0t,getElem?_append_right→k0s,getElem?_map→k1q,length_append→k1z,length_map→k1y,getElem_mem→k1x,length_replicate→k2q,take_of_length_le→k2z,length_take→k2u,take_add_one→k2t,getElem?_range→k2s,length_range→k3q
open Int renaming toNat_natCast→k0v
open Nat renaming le_refl→k1w,mul_le_mul_right→k2v
open Bool renaming and_eq_true→k1v
set_option maxHeartbeats 16000000
set_option maxRecDepth 20000
namespace Go.Proofs.YtinfbclgkghgaaaGreat.AL
open Go Go.Proofs Go.Proofs.YtinfbclgkghgaaaGreat.AL.Crc
theorem z8k {N:Nat}:∀ (ps:List Put9) {D:Dev} {b:Nat} (m:Int),(∀ p∈ps,u3j N p)→CleanP D N b →
 ∃ E m',q6n w7d ps D m=(0,(E,m'))∧CleanP E N (b+ps.length)∧E.cells=q7w ps D.cells
 |[],D,b,m,_,h=>⟨D,m,rfl,h,rfl⟩
 |p :: r,D,b,m,hp,h=>by
  obtain⟨h0,h1,h2⟩:=hp p (by simp)
  have hk:((p.at_.toNat:Nat):Int)=p.at_:=by omega
  obtain⟨E,g1,g2,g3⟩:=w7g h (k:=p.at_.toNat) (by omega) h2
  rw[hk]at g1
  have eg:w7d D m p.at_ p.s=(0,(E,v2w 0 m)):=by unfold w7d;rw[g1]
  obtain⟨F,m',k1,k2,k3⟩:=z8k r (v2w 0 m) (fun q hq=>hp q (by simp[hq])) g2
  refine⟨F,m',?_,by rw[List.length_cons,show b+(r.length+1)=b+1+r.length by omega];exact k2,by rw[k3,g3];rfl⟩
  rw[y7r,eg];exact k1
theorem w7m {N:Nat}(ps:List Put9){D:Dev}{b:Nat}(hp:∀ p∈ps,u3j N p)(h:CleanP D N b):∃ E,D.all9 ps=(0,E)∧CleanP E N (b+ps.length)∧E.cells=q7w ps D.cells:=by
 obtain⟨E,m',h1,h2,h3⟩:=z8k ps 0 hp h
 exact⟨E,by unfold Dev.all9;rw[h1],h2,h3⟩
theorem x2q {ps:List Put9}{base:Nat}(hb:∀ (t:Nat) (x:Put9),ps[t]?=some x→x.at_=((base+t:Nat):Int)){cs:List Cell}(hl:base+ps.length≤cs.length):∀ j,j≤ps.length →
 (∀ (t:Nat) (x:Put9),ps[t]?=some x→(q7w (ps.take j) cs)[base+t]?=if t<j then some (z1b x.s) else cs[base+t]?)∧∀ a,(a<base∨base+ps.length≤a)→(q7w (ps.take j) cs)[a]?=cs[a]?
 |0,_=>⟨fun t x _=>by rw[if_neg (by omega)];rfl,fun a _=>rfl⟩
 |j+1,hj=>by
  obtain⟨h1,h2⟩:=x2q hb hl j (by omega)
  have hx:=k0x (show j<ps.length by omega)
  generalize ps[j]=y at hx
  have hy:=hb j y hx
  have e:q7w (ps.take (j+1)) cs=(q7w (ps.take j) cs).set (base+j) (z1b y.s):=by
   rw[k2t,hx,v3f]
   show (q7w (ps.take j) cs).set y.at_.toNat (z1b y.s)=_
   rw[hy,k0v]
  have hlen:=x2k (ps.take j) cs
  rw[e]
  refine⟨fun t x ht=>?_,fun a ha=>?_⟩
  ·rw[List.getElem?_set]
   by_cases et:j=t
   ·subst et
    rw[hx]at ht
    obtain rfl:=k0y ht
    rw[if_pos rfl,if_pos (by omega),if_pos (by omega)]
   ·rw[if_neg (by omega),h1 t x ht]
    by_cases e2:t<j
    ·rw[if_pos e2,if_pos (by omega)]
    ·rw[if_neg e2,if_neg (by omega)]
  ·rw[List.getElem?_set,if_neg (by omega)]
   exact h2 a ha
/-- A snapshot that may be. -/
structure SnapG (vol:Int) (g:GeoV) (area epoch no:Int) (k m S:Nat):Prop where
 may:g.may=true
 hk:g.k=k
 hm:g.m=m
 hs:g.s=S
 a0:0≤area
 a1:area≤1
 word:U8 [vol,epoch,no]=true
def GeoV.base (g:GeoV)(area:Int):Nat:=(4+2*g.w+area*(g.s*(g.k+g.m))).toNat
variable {vol:Int} {g:GeoV} {area epoch no:Int} {k m S:Nat}
theorem SnapG.first (h:SnapG vol g area epoch no k m S){s:Nat}(hs:s<S):W4 g area s:=⟨h.may,h.a0,h.a1,by omega,by have:=h.hs;omega⟩
theorem SnapG.nat (h:SnapG vol g area epoch no k m S):1≤S∧S≤32∧1≤k∧k≤16∧1≤m∧m≤8:=by
 obtain⟨h1,h2,h3,h4,h5,h6,h7,h8⟩:=V1 (V3 h.may)
 have:=h.hk;have:=h.hm;have:=h.hs
 omega
theorem SnapG.base0 (h:SnapG vol g area epoch no k m S):0≤4+2*g.w+area*(g.s*(g.k+g.m))∧area*(g.s*(g.k+g.m))=area*((S*(k+m):Nat):Int):=by
 obtain⟨h1,h2,h3,h4,h5,h6,h7,h8⟩:=V1 (V3 h.may)
 have e:g.s*(g.k+g.m)=((S*(k+m):Nat):Int):=by rw[h.hk,h.hm,h.hs];simp
 rw[e]
 have:0≤area*((S*(k+m):Nat):Int):=Int.mul_nonneg h.a0 (by omega)
 exact⟨by omega,rfl⟩
theorem SnapG.at_ (h:SnapG vol g area epoch no k m S)(s:Nat):g.at_ area s=((g.base area+s*(k+m):Nat):Int):=by
 obtain⟨b0,_⟩:=h.base0
 unfold GeoV.at_ GeoV.base
 rw[Int.add_mul,Int.mul_assoc,Int.natCast_add,Int.toNat_of_nonneg b0,h.hk,h.hm,h.hs]
 simp only[Int.natCast_mul,Int.natCast_add]
 omega
theorem SnapG.fits (h:SnapG vol g area epoch no k m S):g.base area+S*(k+m)≤g.secs∧g.secs≤4096:=by
 obtain⟨b0,b1⟩:=h.base0
 obtain⟨q1,q2,_⟩:=x6i h.may
 have e:2*g.s*(g.k+g.m)=2*((S*(k+m):Nat):Int):=by rw[h.hk,h.hm,h.hs,Int.mul_assoc];simp
 rw[e]at q1
 have ha:area=0∨area=1:=by have:=h.a0;have:=h.a1;omega
 refine⟨?_,q2⟩
 unfold GeoV.base
 rw[b1]
 generalize S*(k+m)=n at *
 rcases ha with rfl|rfl
 ·rw[Int.zero_mul];omega
 ·rw[Int.one_mul];omega
theorem z5v {S n s i:Nat}(hs:s<S)(hi:i<n):s*n+i<S*n:=by
 have:=k2v n (show s+1≤S from hs)
 rw[Nat.succ_mul]at this
 omega
theorem w7n {P:z6}{k m S s:Nat}(hP:P.length=228*(S*k))(hs:s<S):∀ x∈W5 P k m s,x.length=228:=fun x hx=>by
 have hr:228*((s+1)*k)≤P.length:=by rw[hP];exact Nat.mul_le_mul_left 228 (k2v k hs)
 unfold W5 at hx
 rcases List.mem_append.mp hx with h|h
 ·exact q8n hr _ h
 ·unfold q1g at h
  rw[List.mem_map]at h
  obtain⟨a,_,rfl⟩:=h
  exact Q8 a (q8n hr) (k1w _)
theorem y0y {P:z6}{k m S s i:Nat}(hP:P.length=228*(S*k))(hs:s<S)(hi:i<k+m):((W5 P k m s).getD i []).length=228:=by
 rw[k0w,k0x (by rw[q8p];exact hi)]
 exact w7n hP hs _ (k1x _)
theorem w7p {a b c:Int}(h:U8 [a,b,c]=true):Y2 a=true∧Y2 b=true∧Y2 c=true:=by
 unfold U8 at h
 simp only[List.all_cons,List.all_nil,Bool.and_true,Bool.and_eq_true,decide_eq_true_eq]at h
 unfold Y2
 simp only[Bool.and_eq_true,decide_eq_true_eq]
 exact⟨h.1,h.2.1,h.2.2⟩
abbrev w7q (vol:Int)(g:GeoV)(area epoch no:Int)(P:z6)(k m s i:Nat):Blk:=⟨4,vol,g.at_ area s+i,epoch,no,(W5 P k m s).getD i []⟩
abbrev w7r (vol:Int)(g:GeoV)(area epoch no:Int)(P:z6)(k m s i:Nat):z6:=(v8r vol g area epoch no (W5 P k m s) s i).s
theorem SnapG.sector (h:SnapG vol g area epoch no k m S){P:z6}(hP:P.length=228*(S*k)){s i:Nat}(hs:s<S)(hi:i<k+m) :
 (w7r vol g area epoch no P k m s i).length=256∧J8 (w7r vol g area epoch no P k m s i)=true∧Y8 (w7r vol g area epoch no P k m s i)=(w7q vol g area epoch no P k m s i,0):=by
 obtain⟨f1,f2⟩:=h.fits
 obtain⟨w1,w2,w3⟩:=w7p h.word
 have hlt:=z5v hs hi
 have hl:=y0y (m:=m) hP hs hi
 have hn:(w7q vol g area epoch no P k m s i).nums=true:=by
  have w4:Y2 (g.at_ area s+i)=true:=by
   rw[h.at_ s]
   unfold Y2
   simp only[Bool.and_eq_true,decide_eq_true_eq]
   omega
  show (decide ((4:Int)≥1)&&decide ((4:Int)≤4)&&[vol,g.at_ area s+i,epoch,no].all Y2)=true
  simp only[List.all_cons,List.all_nil,w1,w2,w3,w4]
  rfl
 have e:(w7q vol g area epoch no P k m s i).sld=(q0k (w7q vol g area epoch no P k m s i).all,0):=by
  unfold Blk.sld;rw[hn,k1t (show ¬ ((W5 P k m s).getD i []).length > 228 by omega)]
 have es:w7r vol g area epoch no P k m s i=q0k (w7q vol g area epoch no P k m s i).all:=by
  show (w7q vol g area epoch no P k m s i).sld.1=_
  rw[e]
 have hall:=z3r (w7q vol g area epoch no P k m s i) (by show ((W5 P k m s).getD i []).length≤228;omega)
 rw[es]
 exact⟨by rw[q9g,hall],q7m _,y0p hn (by show ((W5 P k m s).getD i []).length≤228;omega)⟩
theorem SnapG.kept (h:SnapG vol g area epoch no k m S){P:z6}(hP:P.length=228*(S*k)){s i:Nat}(hs:s<S)(hi:i<k+m) :
 q0v vol (g.at_ area s) no i (w7r vol g area epoch no P k m s i)=(W5 P k m s).getD i []:=by
 unfold q0v
 rw[(h.sector hP hs hi).2.2]
 have hl:=y0y (m:=m) hP hs hi
 simp only[beq_self_eq_true,Bool.true_and,Bool.and_true]
 rw[show ((((W5 P k m s).getD i []).length:Int)==228)=true from by rw[hl];rfl]
theorem z4d {P:z6}:∀ S' s i,s<S'→i<k+m→(q4q vol g area epoch no P k m S')[s*(k+m)+i]?=some (v8r vol g area epoch no (W5 P k m s) s i)
 |0,s,i,hs,_=>by omega
 |S'+1,s,i,hs,hi=>by
  have hl:=q3u (vol:=vol) (g:=g) (area:=area) (epoch:=epoch) (no:=no) (P:=P) (k:=k) (m:=m) S'
  unfold q4q
  by_cases e:s<S'
  ·rw[k0t (by rw[hl];exact z5v e hi)]
   exact z4d S' s i e hi
  ·have e:s=S':=by omega
   subst e
   rw[k0s (by rw[hl];omega),hl,Nat.add_sub_cancel_left]
   unfold z0s
   rw[k1q,k2s (by rw[q8p];exact hi)];rfl
theorem x2r {n t:Nat}(_hn:0<n):t=(t / n)*n+t % n:=by
 have:=Nat.div_add_mod t n
 rw[Nat.mul_comm]at this
 omega
theorem SnapG.puts_at (h:SnapG vol g area epoch no k m S){P:z6}{t:Nat}{x:Put9}(ht:(q4q vol g area epoch no P k m S)[t]?=some x):x.at_=((g.base area+t:Nat):Int):=by
 obtain⟨_,_,k1,_,_,_⟩:=h.nat
 have hlt:t<S*(k+m):=by have:=(k0u.1 ht).1;rwa [q3u]at this
 have hn:0<k+m:=by omega
 have e:=x2r (t:=t) hn
 have hs:t / (k+m)<S:=Nat.div_lt_of_lt_mul (by rw[Nat.mul_comm];exact hlt)
 have hi:t % (k+m)<k+m:=Nat.mod_lt _ hn
 have:=z4d (vol:=vol) (g:=g) (area:=area) (epoch:=epoch) (no:=no) (P:=P) S _ _ hs hi
 rw[← e,ht]at this
 rw[k0y this]
 show g.at_ area ((t / (k+m):Nat):Int)+((t % (k+m):Nat):Int)=_
 rw[h.at_]
 omega
theorem SnapG.puts_ok (h:SnapG vol g area epoch no k m S){P:z6}(hP:P.length=228*(S*k)):∀ p∈q4q vol g area epoch no P k m S,u3j g.secs p:=fun p hp=>by
 obtain⟨t,ht⟩:=List.getElem?_of_mem hp
 obtain⟨_,_,k1,_,_,_⟩:=h.nat
 have hlt:t<S*(k+m):=by have:=(k0u.1 ht).1;rwa [q3u]at this
 have hn:0<k+m:=by omega
 have e:=x2r (t:=t) hn
 have hs:t / (k+m)<S:=Nat.div_lt_of_lt_mul (by rw[Nat.mul_comm];exact hlt)
 have hi:t % (k+m)<k+m:=Nat.mod_lt _ hn
 have hg:=z4d (vol:=vol) (g:=g) (area:=area) (epoch:=epoch) (no:=no) (P:=P) S _ _ hs hi
 rw[← e,ht]at hg
 have hat:=h.puts_at ht
 obtain⟨f1,f2⟩:=h.fits
 refine⟨by omega,by omega,?_⟩
 rw[k0y hg]
 exact(h.sector hP hs hi).1
theorem SnapG.cells (h:SnapG vol g area epoch no k m S){P:z6}{cs:List Cell}(hl:cs.length=g.secs){j:Nat}(hj:j≤S*(k+m)) :
 (∀ s i,s<S→i<k+m→(q7w ((q4q vol g area epoch no P k m S).take j) cs)[g.base area+(s*(k+m)+i)]?=if s*(k+m)+i<j then some (z1b (w7r vol g area epoch no P k m s i)) else cs[g.base area+(s*(k+m)+i)]?) ∧
 ∀ a,(a<g.base area∨g.base area+S*(k+m)≤a)→(q7w ((q4q vol g area epoch no P k m S).take j) cs)[a]?=cs[a]?:=by
 obtain⟨f1,f2⟩:=h.fits
 have hlen:=q3u (vol:=vol) (g:=g) (area:=area) (epoch:=epoch) (no:=no) (P:=P) (k:=k) (m:=m) S
 obtain⟨h1,h2⟩:=x2q (ps:=q4q vol g area epoch no P k m S) (base:=g.base area) (fun t x ht=>h.puts_at ht) (cs:=cs) (by rw[hlen];omega) j (by omega)
 rw[hlen]at h2
 exact⟨fun s i hs hi=>h1 _ _ (z4d S s i hs hi),h2⟩
theorem w7s {D:Dev}{N b:Nat}(h:CleanP D N b){A:Nat}:∀ n,A+n≤N→(D.reads A n).1=(List.range n).map (fun i=>q5x D (A+i))∧CleanP (D.reads A n).2 N b∧(D.reads A n).2.cells=D.cells
 |0,_=>⟨rfl,h,rfl⟩
 |n+1,hk=>by
  obtain⟨h1,h2,h3⟩:=w7s h (A:=A) n (by omega)
  obtain⟨r1,r2,r3⟩:=Q0h h2 (show A+n<N by omega)
  have ec:((A+n:Nat):Int)=(A:Int)+n:=by omega
  rw[ec]at r1 r2
  refine⟨?_,?_,?_⟩
  ·show (D.reads A n).1++[((D.reads A n).2.read ((A:Int)+n)).1.1]=_
   rw[h1,r1,List.range_succ,List.map_append]
   unfold q5x
   rw[h3];rfl
  ·show CleanP ((D.reads A n).2.read ((A:Int)+n)).2 N b
   rw[r2];exact r3
  ·show ((D.reads A n).2.read ((A:Int)+n)).2.cells=_
   rw[r2];exact h3
def z0y (vol:Int)(g:GeoV)(area no:Int)(n:Nat)(E:Dev)(s:Nat):List z6:=(List.range n).map fun i=>q0v vol (g.at_ area s) no i (q5x E (g.base area+(s*n+i)))
def z1c (vol:Int)(g:GeoV)(area no:Int)(k m:Nat)(E:Dev)(s:Nat):Bool:=decide ((Q6 (z0y vol g area no (k+m) E s) k (k+m)).length<k)
structure TrueP (vol:Int) (g:GeoV) (area epoch no:Int) (P:z6) (k m S:Nat) (E:Dev):Prop where
 all:∀ s i,s<S→i<k+m→q0v vol (g.at_ area s) no i (q5x E (g.base area+(s*(k+m)+i)))=[]∨q0v vol (g.at_ area s) no i (q5x E (g.base area+(s*(k+m)+i)))=(W5 P k m s).getD i []
theorem y0z {vol:Int}{g:GeoV}{area no:Int}{n:Nat}{E:Dev}{s i:Nat}(hi:i<n):(z0y vol g area no n E s).getD i []=q0v vol (g.at_ area s) no i (q5x E (g.base area+(s*n+i))):=by
 unfold z0y
 rw[k0w,k1q,k2s hi];rfl
theorem v8x (h:SnapG vol g area epoch no k m S){P:z6}(hP:P.length=228*(S*k)){E:Dev}{b:Nat}(hE:CleanP E g.secs b)(hT:TrueP vol g area epoch no P k m S E){s:Nat}(hs:s<S) :
 X4 (E.reads (g.at_ area s) (k+m)).1 vol g area s no=match z1c vol g area no k m E s with|true=>([],22)|false=>(W5 P k m s,0):=by
 obtain⟨n1,n2,n3,n4,n5,n6⟩:=h.nat
 obtain⟨f1,f2⟩:=h.fits
 have hlt:=z5v (n:=k+m) (i:=k+m - 1) hs (by omega)
 obtain⟨r1,_,_⟩:=w7s hE (A:=g.base area+s*(k+m)) (k+m) (by omega)
 rw[h.at_ s,r1]
 have hL:q0n vol (g.at_ area s) no ((List.range (k+m)).map fun i=>q5x E (g.base area+s*(k+m)+i))=z0y vol g area no (k+m) E s:=by
  unfold q0n z0y
  rw[k1y,k3q]
  refine List.map_congr_left fun i hi=>?_
  rw[k0w,k1q,k2s (List.mem_range.mp hi)]
  show q0v vol (g.at_ area s) no i (q5x E (g.base area+s*(k+m)+i))=_
  rw[Nat.add_assoc]
 have hw:U8 [vol,no]=true:=by
  obtain⟨w1,_,w3⟩:=w7p h.word
  unfold U8
  unfold Y2 at w1 w3
  simp only[List.all_cons,List.all_nil,Bool.and_true,Bool.and_eq_true,decide_eq_true_eq]at *
  omega
 unfold X4
 rw[q2f (h.first hs),hw,show (((((List.range (k+m)).map fun i=>q5x E (g.base area+s*(k+m)+i)).length:Nat):Int)==g.k+g.m)=true from by rw[k1y,k3q,h.hk,h.hm];exact beq_iff_eq.mpr (by omega),hL]
 show (match (J9 (z0y vol g area no (k+m) E s) g.k.toNat g.m.toNat 228).2 != 0 with|true=>(([],22):List z6 × Int)|false=>_)=_
 rw[h.hk,h.hm,k0v,k0v]
 cases hf:z1c vol g area no k m E s with
 |true=>
  unfold z1c at hf
  unfold J9
  rw[hf];rfl
 |false=>
  unfold z1c at hf
  have hr:228*((s+1)*k)≤P.length:=by rw[hP];exact Nat.mul_le_mul_left 228 (k2v k hs)
  have hd:=v2t (S:=z0y vol g area no (k+m) E s) (k:=k) (m:=m) (c:=228) (by omega) (by decide) (q3t P k s) (q8n hr) (fun i hi h0=>by
   rw[y0z hi]at h0 ⊢
   rcases hT.all s i hs hi with e|e
   ·rw[e]at h0;simp at h0
   ·exact e) (k0z hf)
  rw[hd];rfl
theorem w9m (h:SnapG vol g area epoch no k m S){P:z6}(hP:P.length=228*(S*k)){E:Dev}{b:Nat}(hE:CleanP E g.secs b)(hT:TrueP vol g area epoch no P k m S E):∀ s,s≤S →
 ∃ E',CleanP E' g.secs b∧E'.cells=E.cells∧E.snapN vol g area no s=match (List.range s).any (z1c vol g area no k m E) with|true=>([],22,E')|false=>(P.take (228*(s*k)),0,E')
 |0,_=>⟨E,hE,rfl,by show (([],0,E):y7t)=(P.take (228*(0*k)),0,E);rw[Nat.zero_mul,Nat.mul_zero,List.take_zero]⟩
 |s+1,hs=>by
  obtain⟨E',c1,c2,c3⟩:=w9m h hP hE hT s (by omega)
  have hT':TrueP vol g area epoch no P k m S E':=⟨fun s i hs hi=>by
   have:=hT.all s i hs hi
   unfold q5x at this ⊢
   rw[c2];exact this⟩
  have hfew:z1c vol g area no k m E' s=z1c vol g area no k m E s:=by
   unfold z1c z0y q5x;rw[c2]
  have hst:=v8x h hP c1 hT' (show s<S by omega)
  rw[hfew]at hst
  obtain⟨f1,f2⟩:=h.fits
  obtain⟨n1,n2,n3,n4,n5,n6⟩:=h.nat
  have hlt:=z5v (n:=k+m) (i:=k+m - 1) (show s<S by omega) (by omega)
  obtain⟨_,r2,r3⟩:=w7s c1 (A:=g.base area+s*(k+m)) (k+m) (by omega)
  rw[← h.at_ s]at r2 r3
  show ∃ E',_∧_∧q2g vol g area no s (E.snapN vol g area no s)=_
  rw[c3,List.range_succ,List.any_append,List.any_cons,List.any_nil,Bool.or_false]
  cases ha:(List.range s).any (z1c vol g area no k m E) with
  |true=>exact⟨E',c1,c2,rfl⟩
  |false=>
   refine⟨_,r2,r3.trans c2,?_⟩
   show (match (X4 (E'.reads (g.at_ area s) (g.k.toNat+g.m.toNat)).1 vol g area s no).2 != 0 with|true=>(_:y7t)|false=>_)=_
   rw[h.hk,h.hm,k0v,k0v,hst]
   cases z1c vol g area no k m E s with
   |true=>rfl
   |false=>
    show ((P.take (228*(s*k))++((W5 P k m s).take k).flatten,0,(E'.reads (g.at_ area s) (k+m)).2):y7t)=(P.take (228*((s+1)*k)),0,(E'.reads (g.at_ area s) (k+m)).2)
    have hfl:∀ j,j≤k→((q0i P k s).take j).flatten=(P.drop (228*(s*k))).take (228*j):=by
     intro j
     induction j with
     |zero=>intro _;rfl
     |succ j ih=>
      intro hj
      rw[k2t,y1k (show j<k by omega),List.flatten_append,ih (by omega)]
      show _++[w2q P (s*k+j)].flatten=_
      rw[List.flatten_singleton]
      unfold w2q
      rw[show 228*(j+1)=228*j+228 by omega,List.take_add,List.drop_drop,show 228*(s*k)+228*j=228*(s*k+j) by rw[Nat.mul_add]]
    have e1:(W5 P k m s).take k=q0i P k s:=by unfold W5;rw[List.take_left' (q3t P k s)]
    have e2:=hfl k (k1w _)
    rw[k2z (by rw[q3t];exact k1w _)]at e2
    rw[e1,e2,show 228*((s+1)*k)=228*(s*k)+228*k by rw[Nat.add_mul s 1 k,Nat.one_mul,Nat.mul_add],List.take_add]
theorem y7v (h:SnapG vol g area epoch no k m S){P:z6}(hP:P.length=228*(S*k)){E:Dev}{b:Nat}(hE:CleanP E g.secs b)(hT:TrueP vol g area epoch no P k m S E){long:Int}(l0:0≤long)(l1:long≤g.room) :
 ∃ E',CleanP E' g.secs b∧E'.cells=E.cells∧E.snapRead vol g area no long=match (List.range S).any (z1c vol g area no k m E) with|true=>(([],22),E')|false=>((P.take long.toNat,0),E'):=by
 obtain⟨n1,n2,n3,n4,n5,n6⟩:=h.nat
 obtain⟨E',c1,c2,c3⟩:=w9m h hP hE hT S (k1w _)
 refine⟨E',c1,c2,?_⟩
 have hw:U8 [vol,no]=true:=by
  obtain⟨w1,_,w3⟩:=w7p h.word
  unfold U8
  unfold Y2 at w1 w3
  simp only[List.all_cons,List.all_nil,Bool.and_true,Bool.and_eq_true,decide_eq_true_eq]at *
  omega
 unfold Dev.snapRead
 rw[show X9 g area 0=(g.at_ area 0,0) from q2f (h.first (s:=0) (by omega)),hw,k1t (show ¬ long<0 by omega),k1t (show ¬ long > g.room by omega),hE.dead,h.hs,k0v,c3]
 show (match (match (List.range S).any (z1c vol g area no k m E) with|true=>(([],22,E'):y7t)|false=>(P.take (228*(S*k)),0,E')).2.1 != 0 with|true=>(_:(z6 × Int) × Dev)|false=>_)=_
 cases (List.range S).any (z1c vol g area no k m E) with
 |true=>rfl
 |false=>
  show (((P.take (228*(S*k))).take long.toNat,0),E')=_
  rw[show P.take (228*(S*k))=P from k2z (by omega)]
end Go.Proofs.YtinfbclgkghgaaaGreat.AL
namespace Go.Proofs.YtinfbclgkghgaaaGreat.AL
open Go Go.Proofs Go.Proofs.YtinfbclgkghgaaaGreat.AL.Crc
def x6n (S:List z6):Nat→Nat
 |0=>0
 |i+1=>x6n S i+(if 0<(S.getD i []).length then 1 else 0)
theorem x2s (S:List z6)(most:Nat):∀ i,(Q6 S most i).length=min most (x6n S i)
 |0=>by show 0=min most 0;omega
 |i+1=>by
  have ih:=x2s S most i
  unfold x6n
  cases h:pkd S most i with
  |true=>
   rw[(q6h h).1,k1z,List.length_singleton]
   unfold pkd at h
   rw[k1v,decide_eq_true_eq,decide_eq_true_eq]at h
   rw[if_pos h.2];omega
  |false=>
   rw[(q7t h).1]
   unfold pkd at h
   rw[Bool.and_eq_false_iff,decide_eq_false_iff_not,decide_eq_false_iff_not]at h
   rcases h with h|h
   ·split <;> omega
   ·rw[if_neg h];omega
theorem w9n {vol:Int}{g:GeoV}{area no:Int}{k m:Nat}{E:Dev}{s:Nat}:z1c vol g area no k m E s=decide (x6n (z0y vol g area no (k+m) E s) (k+m)<k):=by
 unfold z1c
 rw[x2s]
 by_cases h:x6n (z0y vol g area no (k+m) E s) (k+m)<k
 ·rw[k1u h,k1u (by omega)]
 ·rw[k1t h,k1t (by omega)]
theorem v3i {s:z6}(h:(Y8 s).2≠0)(vol a no:Int)(i:Nat):q0v vol a no i s=[]:=by
 unfold q0v
 rw[show ((Y8 s).2==0)=false from beq_eq_false_iff_ne.mpr h];rfl
theorem w7t {v:Int}(hv:Y2 v=true){x:Nat}(hx:x≤4294967295)(vol a no:Int)(i:Nat):q0v vol a no i (U9 v x)=[]:=by
 obtain⟨e1,e2,_⟩:=y0v v hv x hx
 unfold q0v
 rw[e1,e2]
 rfl
abbrev flA (f:Flt)(a:Int):Flt:={ f with at_:=a,n:=0,to:=0 }
def q7x (f:Flt)(base:Nat)(h:List Bool)(D:Dev):Nat→Dev
 |0=>D
 |t+1=>match h.getD t false with
  |true=>((q7x f base h D t).fault (flA f ((base+t:Nat):Int))).2
  |false=>q7x f base h D t
theorem x6p {D:Dev}{N b:Nat}{f:Flt}(hD:CleanP D N b)(k1:1≤f.kind)(k3:f.kind≤3)(o0:0≤f.off)(o1:f.off<256){base:Nat}(h:List Bool):∀ t,base+t≤N →
 CleanP (q7x f base h D t) N (b+t)∧∀ a,(q7x f base h D t).cells[a]?=if base≤a∧a<base+t∧h.getD (a - base) false=true then (D.cells[a]?).map (y0x f) else D.cells[a]?
 |0,_=>⟨hD,fun a=>by rw[if_neg (by omega)];rfl⟩
 |t+1,ht=>by
  obtain⟨c,r⟩:=x6p hD k1 k3 o0 o1 (base:=base) h t (by omega)
  unfold q7x
  cases hh:h.getD t false with
  |false=>
   refine⟨c.mono (by omega),fun a=>?_⟩
   show (q7x f base h D t).cells[a]?=_
   rw[r a]
   by_cases e:a=base+t
   ·subst e
    rw[Nat.add_sub_cancel_left,hh,if_neg (by omega),if_neg (by simp)]
   ·by_cases e2:base≤a∧a<base+t∧h.getD (a - base) false=true
    ·rw[if_pos e2,if_pos ⟨e2.1,by omega,e2.2.2⟩]
    ·rw[if_neg e2,if_neg (fun e3=>e2 ⟨e3.1,by omega,e3.2.2⟩)]
  |true=>
   obtain⟨E,e1,e2,e3⟩:=v8v (f:=flA f ((base+t:Nat):Int)) c (by show (0:Int)≤((base+t:Nat):Int);omega) (by show ((base+t:Nat):Int)<_;omega) k1 k3 o0 o1
   show CleanP ((q7x f base h D t).fault (flA f ((base+t:Nat):Int))).2 N (b+(t+1))∧_
   rw[e1]
   refine⟨e2,fun a=>?_⟩
   show E.cells[a]?=_
   have hat:(flA f ((base+t:Nat):Int)).at_.toNat=base+t:=k0v _
   rw[e3,List.getElem?_modify,hat,r a]
   by_cases e:base+t=a
   ·subst e
    rw[Nat.add_sub_cancel_left,hh,if_neg (by omega),if_pos ⟨by omega,by omega,rfl⟩]
    cases D.cells[base+t]? with
    |none=>rfl
    |some c=>show some (if base+t=base+t then _ else _)=_;rw[if_pos rfl];rfl
   ·by_cases e2:base≤a∧a<base+t∧h.getD (a - base) false=true
    ·rw[if_pos e2,if_pos ⟨e2.1,by omega,e2.2.2⟩]
     cases D.cells[a]? with
     |none=>rfl
     |some c=>show some (if base+t=a then _ else _)=_;rw[if_neg e];rfl
    ·rw[if_neg e2,if_neg (fun e3=>e2 ⟨e3.1,by omega,e3.2.2⟩)]
     cases D.cells[a]? with
     |none=>rfl
     |some c=>show some (if base+t=a then _ else _)=_;rw[if_neg e]
def q9r (h:List Bool)(s n:Nat):Nat→Nat
 |0=>0
 |i+1=>q9r h s n i+(match h.getD (s*n+i) false with|true=>1|false=>0)
theorem y7w (h:List Bool)(s n:Nat):∀ i,q9r h s n i≤i
 |0=>k1w _
 |i+1=>by
  have:=y7w h s n i
  unfold q9r
  split <;> omega
variable {vol:Int} {g:GeoV} {area epoch no:Int} {k m S:Nat}
theorem SnapG.room (h:SnapG vol g area epoch no k m S):g.room=((228*(S*k):Nat):Int):=by
 unfold GeoV.room
 rw[h.may,h.hs,h.hk]
 show (S:Int)*k*228=_
 rw[Int.mul_comm];simp
structure WroteP (vol:Int) (g:GeoV) (area epoch no:Int) (P:z6) (k m S:Nat) (E:Dev):Prop where
 there:∀ s i,s<S→i<k+m→E.cells[g.base area+(s*(k+m)+i)]?=some (z1b (w7r vol g area epoch no P k m s i))
theorem SnapG.putsB (h:SnapG vol g area epoch no k m S){b:z6}(hb:b.length≤228*(S*k)):putsB vol g area epoch no b=(q4q vol g area epoch no (z0r (228*(S*k)) b) k m S,0):=by
 obtain⟨n1,_⟩:=h.nat
 unfold Go.Proofs.YtinfbclgkghgaaaGreat.AL.putsB
 rw[show X9 g area 0=(g.at_ area 0,0) from q2f (h.first (s:=0) (by omega)),h.word,h.room,k1t (show ¬ (b.length:Int) > ((228*(S*k):Nat):Int) by omega),k0v,h.hk,h.hm,h.hs,k0v,k0v,k0v]
 rfl
theorem w3c (h:SnapG vol g area epoch no k m S){b:z6}(hb:b.length≤228*(S*k)){D:Dev}{n:Nat}(hD:CleanP D g.secs n) :
 ∃ E,D.snapWrite vol g area epoch no b=(0,E)∧CleanP E g.secs (n+S*(k+m))∧WroteP vol g area epoch no (z0r (228*(S*k)) b) k m S E∧∀ a,(a<g.base area∨g.base area+S*(k+m)≤a)→E.cells[a]?=D.cells[a]?:=by
 have hP:=z8h hb
 obtain⟨E,e1,e2,e3⟩:=w7m _ (h.puts_ok hP) hD
 have hlen:=q3u (vol:=vol) (g:=g) (area:=area) (epoch:=epoch) (no:=no) (P:=z0r (228*(S*k)) b) (k:=k) (m:=m) S
 obtain⟨c1,c2⟩:=h.cells (P:=z0r (228*(S*k)) b) hD.len (k1w (S*(k+m)))
 rw[k2z (by omega),← e3]at c1 c2
 refine⟨E,?_,by rw[hlen]at e2;exact e2,⟨fun s i hs hi=>?_⟩,c2⟩
 ·unfold Dev.snapWrite
  rw[h.putsB hb];exact e1
 ·rw[c1 s i hs hi,if_pos (z5v hs hi)]
theorem WroteP.keep {P:z6}{E F:Dev}(h:WroteP vol g area epoch no P k m S E)(he:∀ s i,s<S→i<k+m→F.cells[g.base area+(s*(k+m)+i)]?=E.cells[g.base area+(s*(k+m)+i)]?):WroteP vol g area epoch no P k m S F:=⟨fun s i hs hi=>by rw[he s i hs hi];exact h.there s i hs hi⟩
theorem x2t (h:SnapG vol g area epoch no k m S){P:z6}(hP:P.length=228*(S*k)){E:Dev}{b:Nat}(hE:CleanP E g.secs b)(hW:WroteP vol g area epoch no P k m S E){f:Flt}(k1:1≤f.kind)(k3:f.kind≤3)(o0:0≤f.off)(o1:f.off≤252)(hm:f.kind=1→chd f.m 4=true)(hh:List Bool){s i:Nat}(hs:s<S)(hi:i<k+m) :
 q0v vol (g.at_ area s) no i (q5x (q7x f (g.base area) hh E (S*(k+m))) (g.base area+(s*(k+m)+i)))=match hh.getD (s*(k+m)+i) false with|true=>[]|false=>(W5 P k m s).getD i []:=by
 obtain⟨f1,f2⟩:=h.fits
 obtain⟨_,r⟩:=x6p hE k1 k3 o0 (by omega) (base:=g.base area) hh (S*(k+m)) f1
 have hlt:=z5v hs hi
 obtain⟨q1,q2,q3⟩:=h.sector hP hs hi
 have hc:=r (g.base area+(s*(k+m)+i))
 rw[hW.there s i hs hi,Nat.add_sub_cancel_left]at hc
 cases hx:hh.getD (s*(k+m)+i) false with
 |true=>
  rw[hx,if_pos ⟨by omega,by omega,rfl⟩]at hc
  rw[z2r _ _ hc]
  exact v3i (u1a q2 q1 k1 k3 o0 o1 hm) _ _ _ _
 |false=>
  rw[hx,if_neg (by simp)]at hc
  rw[z2r _ _ hc]
  exact h.kept hP hs hi
theorem w3d (h:SnapG vol g area epoch no k m S){P:z6}(hP:P.length=228*(S*k)){E:Dev}{b:Nat}(hE:CleanP E g.secs b)(hW:WroteP vol g area epoch no P k m S E){f:Flt}(k1:1≤f.kind)(k3:f.kind≤3)(o0:0≤f.off)(o1:f.off≤252)(hm:f.kind=1→chd f.m 4=true)(hh:List Bool){s:Nat}(hs:s<S) :
 z1c vol g area no k m (q7x f (g.base area) hh E (S*(k+m))) s=decide (m<q9r hh s (k+m) (k+m)):=by
 have hc:∀ i,i≤k+m→x6n (z0y vol g area no (k+m) (q7x f (g.base area) hh E (S*(k+m))) s) i=i - q9r hh s (k+m) i:=by
  intro i
  induction i with
  |zero=>intro _;rfl
  |succ i ih=>
   intro hi
   have hle:=y7w hh s (k+m) i
   unfold x6n q9r
   rw[ih (by omega),y0z (by omega),x2t h hP hE hW k1 k3 o0 o1 hm hh hs (show i<k+m by omega)]
   cases hh.getD (s*(k+m)+i) false with
   |true=>rw[if_neg (by simp)];show _=i+1 - (q9r hh s (k+m) i+1);omega
   |false=>
    rw[if_pos (show 0<((W5 P k m s).getD i []).length by rw[y0y hP hs (by omega)];decide)]
    show _=i+1 - (q9r hh s (k+m) i+0)
    omega
 have hle:=y7w hh s (k+m) (k+m)
 rw[w9n,hc _ (k1w _)]
 by_cases e:m<q9r hh s (k+m) (k+m)
 ·rw[k1u e,k1u (by omega)]
 ·rw[k1t e,k1t (by omega)]
theorem v3j {n:Nat}{b:z6}:(z0r n b).take b.length=b:=by unfold z0r;rw[List.take_left' rfl]
theorem v3k (h:SnapG vol g area epoch no k m S){b:z6}(hb:b.length≤228*(S*k)){E:Dev}{n:Nat}(hE:CleanP E g.secs n)(hW:WroteP vol g area epoch no (z0r (228*(S*k)) b) k m S E){f:Flt}(k1:1≤f.kind)(k3:f.kind≤3)(o0:0≤f.off)(o1:f.off≤252)(hm:f.kind=1→chd f.m 4=true)(hh:List Bool) :
 ∃ E',CleanP E' g.secs (n+S*(k+m))∧E'.cells=(q7x f (g.base area) hh E (S*(k+m))).cells∧(q7x f (g.base area) hh E (S*(k+m))).snapRead vol g area no b.length=match (List.range S).any (fun s=>decide (m<q9r hh s (k+m) (k+m))) with|true=>(([],22),E')|false=>((b,0),E'):=by
 have hP:=z8h hb
 obtain⟨f1,f2⟩:=h.fits
 obtain⟨c,_⟩:=x6p hE k1 k3 o0 (by omega) (base:=g.base area) hh (S*(k+m)) f1
 have hT:TrueP vol g area epoch no (z0r (228*(S*k)) b) k m S (q7x f (g.base area) hh E (S*(k+m))):=⟨fun s i hs hi=>by
  rw[x2t h hP hE hW k1 k3 o0 o1 hm hh hs hi]
  cases hh.getD (s*(k+m)+i) false with
  |true=>exact .inl rfl
  |false=>exact .inr rfl⟩
 obtain⟨E',r1,r2,r3⟩:=y7v h hP c hT (long:=(b.length:Int)) (by omega) (by rw[h.room];omega)
 refine⟨E',r1,r2,?_⟩
 have hany:(List.range S).any (z1c vol g area no k m (q7x f (g.base area) hh E (S*(k+m))))=(List.range S).any (fun s=>decide (m<q9r hh s (k+m) (k+m))):=by
  rw[Bool.eq_iff_iff,List.any_eq_true,List.any_eq_true]
  constructor
  ·rintro⟨s,hs,e⟩
   rw[w3d h hP hE hW k1 k3 o0 o1 hm hh (List.mem_range.mp hs)]at e
   exact⟨s,hs,e⟩
  ·rintro⟨s,hs,e⟩
   exact⟨s,hs,by rw[w3d h hP hE hW k1 k3 o0 o1 hm hh (List.mem_range.mp hs)];exact e⟩
 rw[r3,hany,k0v,v3j] <;> (cases (List.range S).any (fun s=>decide (m<q9r hh s (k+m) (k+m))) <;> rfl)
theorem v3m (h:SnapG vol g area epoch no k m S){E:Dev}{n:Nat}(hE:CleanP E g.secs n){v:Int}(hv:Y2 v=true)(hF:∀ a,g.base area≤a→a<g.base area+S*(k+m)→E.cells[a]?=some (z1b (U9 v a))){long:Int}(l0:0≤long)(l1:long≤g.room) :
 ∃ E',CleanP E' g.secs n∧E'.cells=E.cells∧E.snapRead vol g area no long=(([],22),E'):=by
 obtain⟨n1,n2,n3,n4,n5,n6⟩:=h.nat
 obtain⟨f1,f2⟩:=h.fits
 have hk:∀ s i,s<S→i<k+m→q0v vol (g.at_ area s) no i (q5x E (g.base area+(s*(k+m)+i)))=[]:=fun s i hs hi=>by
  have hlt:=z5v hs hi
  rw[z2r _ _ (hF _ (by omega) (by omega))]
  exact w7t hv (by omega) _ _ _ _
 have hP:(List.replicate (228*(S*k)) (0:UInt8)).length=228*(S*k):=k2q
 obtain⟨E',r1,r2,r3⟩:=y7v h hP hE ⟨fun s i hs hi=>.inl (hk s i hs hi)⟩ l0 l1
 refine⟨E',r1,r2,?_⟩
 have hc:∀ i,i≤k+m→x6n (z0y vol g area no (k+m) E 0) i=0:=by
  intro i
  induction i with
  |zero=>intro _;rfl
  |succ i ih=>
   intro hi
   unfold x6n
   rw[ih (by omega),y0z (by omega),hk 0 i (by omega) (by omega)]
   rfl
 have hany:(List.range S).any (z1c vol g area no k m E)=true:=List.any_eq_true.mpr ⟨0,List.mem_range.mpr (by omega),by rw[w9n,hc _ (k1w _)];exact k1u (by omega)⟩
 rw[r3,hany]
end Go.Proofs.YtinfbclgkghgaaaGreat.AL
namespace Go.Proofs.YtinfbclgkghgaaaGreat.AL
open Go Go.Proofs Go.Proofs.YtinfbclgkghgaaaGreat.AL.Crc
def z8m (g:GeoV):Bool:=decide (g.w≤16)&&decide (g.s≤3)&&decide (g.k≤4)&&decide (g.m≤3)
theorem w3e (g:GeoV):AF Tryz.prog y8d [g.av] [] (v8 (bl (z8m g)) []):=by
 refine v6 hT y8e rfl rfl y8f rfl ?_
 refine q8 hT ?_
 refine u6 (Q4 0 g.pv rfl rfl) ?_
 unfold z8m
 refine q8 hT ?_
 refine y4 (fun h=>?_) (fun h=>?_)
 ·rw[show decide (g.w≤16)=true from h]
  refine y4 (fun h=>?_) (fun h=>?_)
  ·rw[show decide (g.s≤3)=true from h]
   refine y4 (fun h=>?_) (fun h=>?_)
   ·rw[show decide (g.k≤4)=true from h]
    refine y9 ?_
    exact z9 [] ⟨rfl,rfl⟩ rfl
   ·rw[show decide (g.k≤4)=false from h]
    refine y9 ?_
    exact z9 [] ⟨rfl,rfl⟩ rfl
  ·rw[show decide (g.s≤3)=false from h]
   refine y9 ?_
   exact z9 [] ⟨rfl,rfl⟩ rfl
 ·rw[show decide (g.w≤16)=false from h]
  refine y9 ?_
  exact z9 [] ⟨rfl,rfl⟩ rfl
theorem v8y {g:GeoV}(h:z8m g=true):g.w≤16∧g.s≤3∧g.k≤4∧g.m≤3:=by
 unfold z8m at h
 simp only[Bool.and_eq_true,decide_eq_true_eq]at h
 omega
abbrev z2s:Flt:=⟨2,24,0,0,0,0,0,0,0⟩
def g12:GeoV:=⟨8,1,2,1⟩
def b12:z6:=(List.replicate 300 (0:UInt8)).set 299 9
theorem w3f (area:Int)(a0:0≤area)(a1:area≤1):SnapG 7 g12 area 3 4 2 1 1:=⟨by decide +kernel,rfl,rfl,rfl,a0,a1,by decide +kernel⟩
theorem z4e:b12.length=300:=by unfold b12;rw[List.length_set,k2q]
theorem y9v:∃ D0 E F G H:Dev,D0=q8w 7 g12∧D0.snapWrite 7 g12 1 3 4 b12=(0,E)∧E.fault z2s=(0,F)∧F.snapRead 7 g12 1 4 300=((b12,0),G)∧G.snapRead 7 g12 0 4 300=(([],22),H)∧D0.Ok 1000∧E.Ok 2000∧F.Ok 3000∧G.Ok 4000:=by
 have hg:=w3f 1 (by decide) (by decide)
 have hv:Y2 7=true:=by decide +kernel
 obtain⟨c0,f0⟩:=u3k 7 hv g12 hg.may
 have hsec:g12.secs=26:=by decide +kernel
 obtain⟨E,e1,e2,e3,e4⟩:=w3c hg (b:=b12) (by rw[z4e];decide) c0
 have hbase:g12.base 1=23:=by decide +kernel
 have hbase0:g12.base 0=20:=by decide +kernel
 obtain⟨F,q1,q2,q3⟩:=v8v (f:=z2s) e2 (by decide) (by rw[hsec];decide) (by decide) (by decide) (by decide) (by decide)
 have hF:q7x z2s (g12.base 1) [false,true,false] E (1*(2+1))=F:=by
  rw[hbase]
  show (E.fault (flA z2s ((23+1:Nat):Int))).2=F
  have:flA z2s ((23+1:Nat):Int)=z2s:=rfl
  rw[this,q1]
 obtain⟨G,r1,r2,r3⟩:=v3k hg (b:=b12) (by rw[z4e];decide) e2 e3 (f:=z2s) (by decide) (by decide) (by decide) (by decide) (fun h=>absurd h (by decide)) [false,true,false]
 rw[hF]at r2 r3
 have hno:(List.range 1).any (fun s=>decide (1<q9r [false,true,false] s (2+1) (2+1)))=false:=by decide +kernel
 rw[hno,z4e]at r3
 have hg0:=w3f 0 (by decide) (by decide)
 obtain⟨H,s1,s2,s3⟩:=v3m hg0 r1 hv (fun a h1 h2=>by
  rw[hbase0]at h1 h2
  have hc:G.cells[a]?=E.cells[a]?:=by
   rw[r2,q3,List.getElem?_modify]
   cases E.cells[a]? with
   |none=>rfl
   |some c=>show some (if (24:Int).toNat=a then _ else _)=_;rw[if_neg (by show ¬ 24=a;omega)]
  rw[hc,e4 a (.inl (by rw[hbase];omega))]
  exact f0 a (by rw[hsec];omega)) (long:=300) (by decide) (by decide +kernel)
 exact⟨_,E,F,G,H,rfl,e1,q1,r3,s3,c0.ok.mono (by rw[hsec];decide),e2.ok.mono (by rw[hsec];decide),q2.ok.mono (by rw[hsec];decide),r1.ok.mono (by rw[hsec];decide)⟩
theorem w3g:AF Tryz.prog y8a [] [] (v8 (bl true) []):=by
 obtain⟨D0,E,F,G,H,d0,d1,d2,d3,d4,o0,o1,o2,o3⟩:=y9v
 have wB:=w2z 7 g12 (by decide +kernel)
 rw[← d0]at wB
 have wW:=w7f D0 7 g12 1 3 4 b12 (by decide) (by decide) (by rw[z4e];decide) 1000 o0 (by decide)
 rw[d1]at wW
 have wf:=w5z E z2s 2000 o1 (by decide)
 rw[d2]at wf
 have wR:=x2j F 7 g12 1 4 300 (by decide) (by decide) 3000 o2 (by decide)
 rw[d3]at wR
 have wR0:=x2j G 7 g12 0 4 300 (by decide) (by decide) 4000 o3 (by decide)
 rw[d4]at wR0
 have wS:=y6n b12 b12 (by rw[z4e];decide)
 rw[beq_self_eq_true]at wS
 have hX:(List.replicate 300 [u8 0]).set 299 [u8 9]=bx b12:=by unfold b12;rw[u3b];unfold bx;rw[List.map_replicate]
 have hXl:(bx b12).length=300:=by rw[w6,z4e]
 have hz:(List.replicate 300 [u8 0])[0+299]?=some [u8 0]:=by rw[List.getElem?_replicate,if_pos (by decide)]
 have hZl:(List.replicate 300 [u8 0]).length=300:=k2q
 clear d0 d1 d2 d3 d4 o0 o1 o2 o3
 generalize b12=B at *
 obtain⟨Z,hZ⟩:∃ Z:List (List PV),Z=List.replicate 300 [u8 0]:=⟨_,rfl⟩
 rw[← hZ]at hX hz hZl
 refine v6 hT y8b rfl rfl y8c rfl ?_
 refine q8 hT ?_
 refine z7 ⟨⟨51,[(1,.p (.box g12.pv))]⟩,[]⟩ True (q9 hT ?_) (fun _=>?_)
 ·exact⟨Wk.trans (Q4 0 g12.pv rfl rfl) (q7 [] [1] rfl),trivial⟩
 refine z7 ⟨⟨51,[(1,.p (.box g12.pv)),(2,.ref 0 0)]⟩,Y4 D0⟩ True (q9 hT ?_) (fun _=>?_)
 ·refine x7 wB ?_
  exact⟨q7 [0,1,2] [1,2] rfl,trivial⟩
 refine y6 (fun st=>∃ Y,Y=Z∧st=⟨⟨51,[(1,.p (.box g12.pv)),(2,.ref 0 0),(3,.msl 3 1 0 300)]⟩,Y4 D0++[.row z1 1 Y]⟩) (q9 hT ?_) ?_
 ·refine⟨⟨rfl,by decide,by decide,by decide⟩,?_⟩
  exact⟨_,q7 [0,1,2,3] [1,2,3] rfl,_,(by rw[hZ];rfl),rfl⟩
 rintro _ ⟨_,rfl,rfl⟩
 refine y6 (fun st=>∃ Y,Y=bx B∧st=⟨⟨51,[(1,.p (.box g12.pv)),(2,.ref 0 0),(3,.msl 3 1 0 300)]⟩,Y4 D0++[.row z1 1 Y]⟩) (q9 hT ?_) ?_
 ·refine⟨⟨by decide,by decide⟩,?_⟩
  refine w9 hz ?_
  exact⟨_,q7 [0,1,2,3] [1,2,3] rfl,_,hX,rfl⟩
 rintro _ ⟨_,rfl,rfl⟩
 refine u6 (Z6 3 3 300 rfl hXl.symm rfl rfl) ?_
 refine z7 ⟨⟨51,[(1,.p (.box g12.pv)),(2,.ref 0 0),(3,bA B),(4,i64 0)]⟩,Y4 E⟩ True (q9 hT ?_) (fun _=>?_)
 ·refine x7 (Q7 [0,1,2] wW rfl rfl rfl) ?_
  exact⟨q7 [0,4,5] [1,2,3,4] rfl,trivial⟩
 refine z7 ⟨⟨51,[(1,.p (.box g12.pv)),(2,.ref 0 0),(3,bA B),(4,i64 0)]⟩,Y4 F⟩ True (q9 hT ?_) (fun _=>?_)
 ·refine x7 (Q7 [0,1,2] wf rfl rfl rfl) ?_
  exact⟨q7 [0,1,2] [1,2,3,4] rfl,trivial⟩
 refine z7 ⟨⟨51,[(1,.p (.box g12.pv)),(2,.ref 0 0),(3,bA B),(4,i64 0),(5,bA B),(6,i64 0)]⟩,Y4 G⟩ True (q9 hT ?_) (fun _=>?_)
 ·refine x7 (Q7 [0,1,2] wR rfl rfl rfl) ?_
  exact⟨q7 [0,1,2] [1,2,3,4,5,6] rfl,trivial⟩
 refine q8 hT ?_
 refine x7 (w7 wS _ rfl rfl) ?_
 refine z7 ⟨⟨51,[(4,i64 0),(6,i64 0),(7,bl true),(9,i64 22)]⟩,[]⟩ True (q9 hT ?_) (fun _=>?_)
 ·refine x7 (Q7 [0,1,2] wR0 rfl rfl rfl) ?_
  exact⟨q7 [] [4,6,7,9] rfl,trivial⟩
 refine q8 hT ?_
 refine y9 ?_
 exact z9 [] ⟨rfl,rfl⟩ rfl
end Go.Proofs.YtinfbclgkghgaaaGreat.AL
namespace Go.Proofs.YtinfbclgkghgaaaGreat.AL
open Go Go.Proofs Go.RowKit
abbrev m4 (a b c d:UInt8):List Value:=[.int .u8 a.toNat,.int .u8 b.toNat,.int .u8 c.toNat,.int .u8 d.toNat]
set_option maxRecDepth 100000
end Go.Proofs.YtinfbclgkghgaaaGreat.AL
namespace Go.Proofs.YtinfbclgkghgaaaGreat.AL
open Go Go.Proofs Go.Proofs.YtinfbclgkghgaaaGreat.AL.Crc
theorem w3h (g:GeoV)(area stripe:Int):AF Tryz.prog y8g [g.av,i64 area,i64 stripe] [] (v8 (.tup [i64 (X9 g area stripe).1,i64 (X9 g area stripe).2]) []):=by
 refine AF.mono (R:=fun r H'=>∃ z,z=X9 g area stripe∧r=.tup [i64 z.1,i64 z.2]∧H'=[]) ?_ (by rintro r H' ⟨z,rfl,rfl,rfl⟩;exact⟨rfl,rfl⟩)
 have wm:=x1s g
 refine v6 hT y8h rfl rfl y8i rfl ?_
 refine q8 hT ?_
 refine u6 (Q4 0 g.pv rfl rfl) ?_
 refine q8 hT ?_
 refine x7 (w7 wm _ rfl rfl) ?_
 refine z7 ⟨⟨48,[(1,i64 area),(2,i64 stripe),(3,.p (.box g.pv))]⟩,[]⟩ (W4 g area stripe) ?_ (fun hok=>?_)
 ·refine y6 (fun st=>∃ b,(b=true→¬ W4 g area stripe)∧(b=false→W4 g area stripe)∧st=⟨⟨48,[(1,i64 area),(2,i64 stripe),(3,.p (.box g.pv)),(30,bl b)]⟩,[]⟩) (q9 hT ?_) ?_
  ·unfold W4
   refine y4 (fun h=>?_) (fun h=>?_)
   ·have h:(!g.may)=true:=h
    rw[Bool.not_eq_true']at h
    exact⟨_,q7 [] [1,2,3,30] rfl,true,fun _ e=>(by rw[h]at e;exact absurd e.1 (by decide)),fun e=>(by cases e),rfl⟩
   have h0:g.may=true:=by
    have h:(!g.may)=false:=h
    rwa [Bool.not_eq_false']at h
   refine y4 (fun h=>?_) (fun h=>?_)
   ·have h1:=k0q (show decide (area<0)=true from h)
    exact⟨_,q7 [] [1,2,3,30] rfl,true,fun _ e=>by omega,fun e=>(by cases e),rfl⟩
   have h1:=k0z (show decide (area<0)=false from h)
   refine y4 (fun h=>?_) (fun h=>?_)
   ·have h2:=k0q (show decide (area > 1)=true from h)
    exact⟨_,q7 [] [1,2,3,30] rfl,true,fun _ e=>by omega,fun e=>(by cases e),rfl⟩
   have h2:=k0z (show decide (area > 1)=false from h)
   refine y4 (fun h=>?_) (fun h=>?_)
   ·have h3:=k0q (show decide (stripe<0)=true from h)
    exact⟨_,q7 [] [1,2,3,30] rfl,true,fun _ e=>by omega,fun e=>(by cases e),rfl⟩
   have h3:=k0z (show decide (stripe<0)=false from h)
   refine⟨_,q7 [] [1,2,3,30] rfl,decide (stripe≥g.s),fun e=>?_,fun e=>?_,rfl⟩
   ·have:=k0q e
    omega
   ·have:=k0z e
    exact⟨h0,by omega,by omega,by omega,by omega⟩
  ·rintro _ ⟨b,hb1,hb2,rfl⟩
   refine z4 (y4 (fun h=>?_) (fun h=>?_))
   ·refine q8 hT ?_
    refine y9 ?_
    exact z9 [] ⟨(0,1),(q4p (hb1 h)).symm,rfl,rfl⟩ rfl
   ·exact z5 ⟨q7 [] [1,2,3] rfl,hb2 h⟩
 have hz:=q2f hok
 have hAr:=w2t hok.1 hok.2.1 hok.2.2.1 hok.2.2.2.1 hok.2.2.2.2
 obtain⟨hm,a0,a1,s0,s1⟩:=hok
 obtain⟨h1,h2,h3,h4,h5,h6,h7,h8⟩:=V1 (V3 hm)
 have e1:0≤area*g.s∧area*g.s≤g.s:=by
  rcases (show area=0∨area=1 by omega) with rfl|rfl <;> omega
 have hdef:g.at_ area stripe=4+2*g.w+(area*g.s+stripe)*(g.k+g.m):=rfl
 have hmu:=Int.mul_le_mul (show area*g.s+stripe≤64 by omega) (show g.k+g.m≤24 by omega) (by omega) (by omega)
 have hm0:0≤(area*g.s+stripe)*(g.k+g.m):=Int.mul_nonneg (by omega) (by omega)
 have hw:IntKind.i64.wrap (IntKind.i64.wrap (4+IntKind.i64.wrap (2*g.w))+IntKind.i64.wrap (IntKind.i64.wrap (IntKind.i64.wrap (area*g.s)+stripe)*IntKind.i64.wrap (g.k+g.m)))=g.at_ area stripe:=by
  rw[y8 (2*g.w) (by omega) (by omega),y8 (4+2*g.w) (by omega) (by omega),y8 (area*g.s) (by omega) (by omega),y8 (area*g.s+stripe) (by omega) (by omega),y8 (g.k+g.m) (by omega) (by omega),y8 ((area*g.s+stripe)*(g.k+g.m)) (by omega) (by omega),y8 _ (by omega) (by omega)]
  exact hdef.symm
 rw[← hw]at hz
 clear hdef hmu hm0 hAr e1
 refine q8 hT ?_
 refine y9 ?_
 exact z9 [] ⟨_,hz.symm,rfl,rfl⟩ rfl
end Go.Proofs.YtinfbclgkghgaaaGreat.AL
namespace Go.Proofs.YtinfbclgkghgaaaGreat.AL
open Go Go.Proofs
theorem y7x (n:Int):AF Tryz.prog x4n [i64 n] [] (v8 (bl (Y2 n)) []):=by
 refine v6 hT x4p rfl rfl x4q rfl ?_
 unfold Y2
 refine q8 hT ?_
 refine q8 hT ?_
 refine y4 (fun h=>?_) (fun h=>?_)
 ·rw[show decide (n≥0)=true from h]
  refine y9 ?_
  exact z9 [] ⟨rfl,rfl⟩ rfl
 ·rw[show decide (n≥0)=false from h]
  refine y9 ?_
  exact z9 [] ⟨rfl,rfl⟩ rfl
structure SolI (r:Nat) (L:List z6) (y:Nat→UInt8) (c:Nat) (M:Z3):Prop where
 len:∀ i,i<r→(M i).length=r+1
 diag:∀ i,i<r→∀ j,j<c→((M i).getD j 0=0↔i≠j)
 ker:∀ z,q2t r M z→∀ j,j<r→z j=0
 val:∀ x,(∀ i,i<r→U2 (M i) x r=(M i).getD r 0)→∀ i,i<r→U2 (L.getD i []) x r=y i
structure SolE (r:Nat) (L:List z6) (y:Nat→UInt8) (c k:Nat) (M:Z3):Prop where
 sol:SolI r L y c M
 piv:(M c).getD c 0≠0
 done:∀ i,i<k→i≠c→(M i).getD c 0=0
theorem w3i {a b:z6}{j:Nat}(h:j<a.length):(a++b).getD j 0=a.getD j 0:=by
 rw[k0w,k0t h,← k0w]
theorem x6q {a b:z6}{x:Nat→UInt8}:∀ {n},n≤a.length→U2 (a++b) x n=U2 a x n
 |0,_=>rfl
 |n+1,h=>by
  show U2 (a++b) x n ^^^ Gf.mul ((a++b).getD n 0) (x n)=_
  rw[x6q (n:=n) (by omega),w3i (by omega)];rfl
theorem z8n {r:Nat}{L:List z6}{y:Nat→UInt8}(hL:L.length=r)(hr:∀ s∈L,s.length=r)(hk:∀ x,q2t r (fun i=>L.getD i []) x→∀ j,j<r→x j=0) :
 SolI r L y 0 (fun i=>L.getD i []++[y i]):=by
 have hl:∀ i,i<r→(L.getD i []).length=r:=fun i hi=>by
  rw[k0w,k0x (by omega)]
  exact hr _ (k1x _)
 refine⟨fun i hi=>by rw[k1z,hl i hi];rfl,fun i _ j h=>by omega,fun z hz=>hk z fun i hi=>?_,fun x h i hi=>?_⟩
 ·have:=hz i hi
  rwa [x6q (by rw[hl i hi];exact k1w _)]at this
 ·have:=h i hi
  have e:((L.getD i [])++[y i]).getD r 0=y i:=by
   rw[k0w (l:=L.getD i []++[y i]),k0s (by rw[hl i hi];exact k1w _),hl i hi,Nat.sub_self];rfl
  rw[x6q (by rw[hl i hi];exact k1w _),e]at this
  exact this
theorem z8p {r c p:Nat}{L:List z6}{y:Nat→UInt8}{M:Z3}(h:SolI r L y c M)(hc:c<r)(h1:c≤p)(h2:p<r):SolI r L y c (swp M c p):=by
 have e:∀ i,i<r→(if i=c then p else if i=p then c else i)<r:=fun i hi=>by split;exact h2;split;exact hc;exact hi
 refine⟨fun i hi=>by rw[z5u];exact h.len _ (e i hi),fun i hi j hj=>?_,fun z hz=>h.ker z (x6d (N:=M) (Q:=fun a _=>U2 a z r=0) hc h2 hz),fun x hx=>h.val x (x6d (N:=M) (Q:=fun a _=>U2 a x r=a.getD r 0) hc h2 hx)⟩
 rw[z5u,h.diag _ (e i hi) j hj]
 by_cases a:i=c
 ·rw[if_pos a];omega
 ·rw[if_neg a]
  by_cases b:i=p
  ·rw[if_pos b];omega
  ·rw[if_neg b]
theorem y7y {a:z6}{i:Nat}(x:Nat→UInt8):∀ {n},(∀ j,j<n→j≠i→a.getD j 0=0)→U2 a x n=if i<n then Gf.mul (a.getD i 0) (x i) else 0
 |0,_=>by rw[if_neg (by omega)];rfl
 |n+1,h=>by
  show U2 a x n ^^^ Gf.mul (a.getD n 0) (x n)=_
  rw[y7y x (n:=n) fun j hj=>h j (by omega)]
  by_cases e:i=n
  ·subst e
   rw[if_neg (by omega),if_pos (by omega),UInt8.zero_xor]
  ·rw[h n (by omega) (by omega),Gf.zero_mul,UInt8.xor_zero]
   by_cases hi:i<n
   ·rw[if_pos hi,if_pos (by omega)]
   ·rw[if_neg hi,if_neg (by omega)]
theorem y3n {r c:Nat}{L:List z6}{y:Nat→UInt8}{M:Z3}(h:SolI r L y c M)(hc:c<r)(hz:∀ p,c≤p→p<r→(M p).getD c 0=0):False:=by
 have hx:=h.ker (fun j=>if j=c then 1 else if j<c then Gf.mul ((M j).getD c 0) (Gf.inv ((M j).getD j 0)) else 0) (fun i hi=>by
  rw[y7j (c:=c+1) (by omega) fun j h1 h2=>by show (if j=c then (1:UInt8) else _)=0;rw[if_neg (by omega),if_neg (by omega)]]
  show U2 _ _ c ^^^ Gf.mul ((M i).getD c 0) (if c=c then 1 else _)=0
  rw[if_pos rfl,Gf.mul_one,y7y (i:=i) _ fun j hj hji=>(h.diag i hi j hj).mpr fun e=>hji e.symm]
  by_cases e:i<c
  ·have hne:(M i).getD i 0≠0:=fun e2=>(h.diag i hi i e).mp e2 rfl
   rw[if_pos e,if_neg (by omega),if_pos e,Gf.mlc,Gf.mul_inv hne,Gf.mul_one,UInt8.xor_self]
  ·rw[if_neg e,hz i (by omega) hi];rfl) c hc
 rw[if_pos rfl]at hx
 exact absurd hx (by decide)
theorem z4f {r c:Nat}{L:List z6}{y:Nat→UInt8}{M:Z3}(h:SolI r L y c M)(hp:(M c).getD c 0≠0):SolE r L y c 0 M:=⟨h,hp,fun i hi=>by omega⟩
theorem z8q {r c:Nat}{L:List z6}{y:Nat→UInt8}{M:Z3}(h:SolE r L y c c M):SolE r L y c (c+1) M:=⟨h.sol,h.piv,fun i hi hic=>h.done i (by omega) hic⟩
theorem x6r {r c k:Nat}{L:List z6}{y:Nat→UInt8}{M:Z3}(h:SolE r L y c k M)(hc:c<r)(hk:k<r)(hkc:k≠c)(q:UInt8)(hq:q=Gf.mul ((M k).getD c 0) (Gf.inv ((M c).getD c 0))) :
 SolE r L y c (k+1) (U5 M k (J4 (M k) (M c) q)):=by
 have hl:(M k).length=(M c).length:=by rw[h.sol.len k hk,h.sol.len c hc]
 have ec:U5 M k (J4 (M k) (M c) q) c=M c:=by rw[q0h,if_neg (by omega)]
 refine⟨⟨fun i hi=>?_,fun i hi j hj=>?_,fun z hz=>h.sol.ker z ?_,fun x hx=>h.sol.val x ?_⟩,by rw[ec];exact h.piv,fun i hi hic=>?_⟩
 ·rw[q0h]
  split
  ·rw[q1t _ hl];exact h.sol.len k hk
  ·exact h.sol.len i hi
 ·rw[q0h]
  by_cases e:i=k
  ·have hcj:(M c).getD j 0=0:=(h.sol.diag c hc j hj).mpr (by omega)
   rw[if_pos e,q9m _ hl,hcj,Gf.mul_zero,UInt8.xor_zero,e]
   exact h.sol.diag k hk j hj
  ·rw[if_neg e];exact h.sol.diag i hi j hj
 ·have h0:=hz c hc
  rw[ec]at h0
  intro i hi
  by_cases e:i=k
  ·have:=hz i hi
   rw[q0h,if_pos e,z3x _ hl,h0,Gf.mul_zero,UInt8.xor_zero]at this
   rw[e];exact this
  ·have:=hz i hi
   rw[q0h,if_neg e]at this
   exact this
 ·have h0:=hx c hc
  rw[ec]at h0
  intro i hi
  by_cases e:i=k
  ·have:=hx i hi
   rw[q0h,if_pos e,z3x _ hl,h0,q9m _ hl]at this
   rw[e]
   have h3:=congrArg (fun v=>v ^^^ Gf.mul q ((M c).getD r 0)) this
   simpa only[UInt8.xor_assoc,UInt8.xor_self,UInt8.xor_zero] using h3
  ·have:=hx i hi
   rw[q0h,if_neg e]at this
   exact this
 ·rw[q0h]
  by_cases e:i=k
  ·rw[if_pos e,q9m _ hl,hq,Gf.mul_assoc,Gf.mul_comm (Gf.inv _),Gf.mul_inv h.piv,Gf.mul_one,UInt8.xor_self]
  ·rw[if_neg e];exact h.done i (by omega) hic
theorem z8r {r c:Nat}{L:List z6}{y:Nat→UInt8}{M:Z3}(h:SolE r L y c r M):SolI r L y (c+1) M:=by
 refine⟨h.sol.len,fun i hi j hj=>?_,h.sol.ker,h.sol.val⟩
 by_cases e:j=c
 ·subst e
  by_cases e2:i=j
  ·subst e2
   exact⟨fun a=>absurd a h.piv,fun a=>absurd rfl a⟩
  ·exact⟨fun _=>e2,fun _=>h.done i hi e2⟩
 ·exact h.sol.diag i hi j (by omega)
theorem y3p {r:Nat}{L:List z6}{y:Nat→UInt8}{M:Z3}(hL:L.length=r)(hr:∀ s∈L,s.length=r)(hk:∀ x,q2t r (fun i=>L.getD i []) x→∀ j,j<r→x j=0)(h:SolI r L y r M) :
 ∀ i,i<r→(M i).getD i 0≠0∧Gf.mul ((M i).getD r 0) (Gf.inv ((M i).getD i 0))=U2 ((gs r L r).2 i) y r:=by
 have hne:∀ i,i<r→(M i).getD i 0≠0:=fun i hi e2=>(h.diag i hi i hi).mp e2 rfl
 have hv:=h.val (fun i=>Gf.mul ((M i).getD r 0) (Gf.inv ((M i).getD i 0))) fun i hi=>by
  rw[y7y (i:=i) _ fun j hj hji=>(h.diag i hi j hj).mpr fun e=>hji e.symm,if_pos hi,Gf.mlc,Gf.mul_inv (hne i hi),Gf.mul_one]
 intro i hi
 exact⟨hne i hi,(x2c hL hr hk _ y hv i hi).symm⟩
def q4r (r:Nat)(L:List z6)(Y:z6):z6:=(List.range r).map fun i=>U2 ((gs r L r).2 i) (fun j=>Y.getD j 0) r
theorem q5y (r:Nat)(L:List z6)(Y:z6):(q4r r L Y).length=r:=by unfold q4r;rw[k1y,k3q]
def q9s (M:Z3)(k:Nat)(X:List (List PV))(j:Nat):List (List PV):=match Nat.beq j k with|true=>X|false=>bx (M j)
def sc (c p i:Nat):Nat:=match Nat.beq i c with|true=>1+p|false=>1+i
theorem x6s (R t:z6):q2c R t 0=t:=by unfold q2c;rw[List.take_zero,List.drop_zero,List.nil_append]
theorem y3q {to row:z6}(q:UInt8){i:Nat}(h1:i<to.length)(h2:i<row.length):(J4 to row q)[i]?=some (to[i] ^^^ Gf.mul q row[i]):=by
 unfold J4
 rw[List.getElem?_zipWith,k0x h1,k0x h2]
theorem z2t {r:Nat}(L:List z6)(Y:z6){i:Nat}(h:i<r):(q4r r L Y)[i]?=some (U2 ((gs r L r).2 i) (fun j=>Y.getD j 0) r):=by unfold q4r;rw[k1q,k2s h];rfl
theorem y9w (a0 Y:z6)(hA:∀ s∈([a0]:List z6),s.length=1)(hk:∀ x,q2t 1 (fun i=>([a0]:List z6).getD i []) x→∀ j,j<1→x j=0)(hY:Y.length=1) :
 AF Tryz.prog J3 [.p (.sl 1 (z2 [a0])),bA Y] [] (v8 (bA (q4r 1 [a0] Y)) []):=by
 refine AF.mono (R:=fun r H'=>∃ z,z=q4r 1 [a0] Y∧r=bA z∧H'=[]) ?_ (by rintro r H' ⟨z,rfl,rfl,rfl⟩;exact⟨rfl,rfl⟩)
 have ha0:a0.length=1:=hA a0 (by simp)
 have hx0:=w6 a0
 have hy0:(bx Y)[((0:Nat):Int).toNat]?=some [u8 (Y.getD 0 0)]:=u7 (Q3 (by omega))
 have h0:=z8n (r:=1) (L:=[a0]) (y:=(fun j=>Y.getD j 0)) rfl hA hk
 have hend:=fun M (h:SolI 1 [a0] (fun j=>Y.getD j 0) 1 M)=>y3p (r:=1) rfl hA hk h
 have hzl:=q5y 1 [a0] Y
 have hzg:=fun i (hi:i<1)=>z2t [a0] Y hi
 have wD:=q9f
 have wM:=q6v
 have wA:=q6u
 generalize q4r 1 [a0] Y=Z at hzl hzg
 obtain⟨M0,hM0⟩:∃ M0:Z3,M0=fun i=>([a0]:List z6).getD i []++[Y.getD i 0]:=⟨_,rfl⟩
 have hm0:bx (M0 0)=bx a0++[[u8 (Y.getD 0 0)]]:=by rw[hM0];exact Y9 _ _
 rw[show (fun i=>([a0]:List z6).getD i []++[(fun j=>Y.getD j 0) i])=M0 from hM0.symm]at h0
 obtain⟨S,hS⟩:∃ S,S=SolI 1 [a0] (fun j=>Y.getD j 0):=⟨_,rfl⟩
 obtain⟨E,hE⟩:∃ E,E=SolE 1 [a0] (fun j=>Y.getD j 0):=⟨_,rfl⟩
 have sLen:∀ {c M},S c M→∀ i,i<1→(M i).length=2:=fun h=>by subst hS;exact h.len
 have sSwap:∀ {c p M},S c M→c<1→c≤p→p<1→S c (swp M c p):=fun h h1 h2 h3=>by subst hS;exact z8p h h1 h2 h3
 have sPiv:∀ {c M},S c M→c<1→(∀ p,c≤p→p<1→(M p).getD c 0=0)→False:=fun h h1 h2=>by subst hS;exact y3n h h1 h2
 have sFirst:∀ {c M},S c M→(M c).getD c 0≠0→E c 0 M:=fun h h1=>by subst hS hE;exact z4f h h1
 have sSkip:∀ {c M},E c c M→E c (c+1) M:=fun h=>by subst hE;exact z8q h
 have sEl:∀ {c k M},E c k M→c<1→k<1→k≠c→∀ q,q=Gf.mul ((M k).getD c 0) (Gf.inv ((M c).getD c 0))→E c (k+1) (U5 M k (J4 (M k) (M c) q)):=fun h h1 h2 h3 q hq=>by subst hE;exact x6r h h1 h2 h3 q hq
 have sELen:∀ {c k M},E c k M→∀ i,i<1→(M i).length=2:=fun h=>by subst hE;exact h.sol.len
 have sEPiv:∀ {c k M},E c k M→(M c).getD c 0≠0:=fun h=>by subst hE;exact h.piv
 have sNext:∀ {c M},E c 1 M→S (c+1) M:=fun h=>by subst hS hE;exact z8r h
 rw[← hS]at h0 hend
 clear hS hE hk hA
 refine v6 hT q4h rfl rfl q4i rfl ?_
 refine q8 hT ?_
 refine z7 ⟨⟨173,[(0,.p (.sl 1 (z2 [a0]))),(1,bA Y),(5,i64 1)]⟩,[]⟩ True (q9 hT ?_) (fun _=>?_)
 ·exact⟨q7 [] [0,1,5] rfl,trivial⟩
 refine z7 ⟨⟨173,[(0,.p (.sl 1 (z2 [a0]))),(1,bA Y),(5,i64 1),(6,.p (.raw (.slice none 0 0)))]⟩,[]⟩ True (q9 hT ?_) (fun _=>?_)
 ·exact⟨q7 [] [0,1,5,6] rfl,trivial⟩
 refine z7 ⟨⟨173,[(5,i64 1),(6,.msl 0 1 0 1)]⟩,[.cells z0 [.msl 1 1 0 2],.row z1 1 (bx (M0 0))]⟩ True (q8 hT ?_) (fun _=>?_)
 ·refine z3 ?_
  refine y7 (fun n s=>(n=1∧s=⟨⟨173,[(0,.p (.sl 1 (z2 [a0]))),(1,bA Y),(5,i64 1),(6,.p (.raw (.slice none 0 0))),(7,i64 0)]⟩,[]⟩)∨(n=0∧s=⟨⟨173,[(0,.p (.sl 1 (z2 [a0]))),(1,bA Y),(5,i64 1),(6,.msl 0 1 0 1),(7,i64 1)]⟩,[.cells z0 [.msl 1 1 0 2],.row z1 1 (bx (M0 0))]⟩)) 1 ⟨⟨173,_⟩,_⟩ (q7 [] [0,1,5,6,7] rfl) (.inl ⟨rfl,rfl⟩) ?_
  rintro n s (⟨rfl,rfl⟩|⟨rfl,rfl⟩)
  ·refine z8 (q8 hT ?_)
   refine z4 ?_
   refine z5 ?_
   refine y6 (fun st=>∃ (n:Nat) (X:List (List PV)),n=2∧X=bx (M0 0)∧st=⟨⟨173,[(0,.p (.sl 1 (z2 [a0]))),(1,bA Y),(5,i64 1),(6,.msl 0 1 0 1),(7,i64 0)]⟩,[.cells z0 [.msl 1 1 0 n],.row z1 1 (X)]⟩) (z3 (q8 hT ?_)) ?_
   ·refine⟨by decide,w9 rfl ?_⟩
    refine⟨⟨by show (bx a0).length*1≤_;omega,by omega⟩,?_⟩
    refine q9 hT ?_
    refine⟨by omega,w9 hy0 ?_⟩
    refine⟨rfl,⟨by show ((bx a0).length+1)*1≤_;omega,by show (bx a0).length+1≤_;omega⟩,?_⟩
    refine⟨⟨(show (1:Nat)*24≤140737488355328 by decide),(show (1:Nat)≤140737488355328 by decide)⟩,?_⟩
    refine⟨_,q7 [4,2] [0,1,5,6,7] rfl,_,_,?_,hm0.symm,rfl⟩
    show (bx a0++[[u8 (Y.getD 0 0)]]).length=2
    rw[k1z,hx0,ha0];rfl
   ·rintro _ ⟨n,X,rfl,rfl,rfl⟩
    refine q9 hT ?_
    exact⟨0,by decide,_,q7 [0,1] [0,1,5,6,7] rfl,(.inr ⟨rfl,rfl⟩)⟩
  ·refine z8 (q8 hT ?_)
   refine z4 ?_
   refine x6 ?_
   exact⟨q7 [0,1] [5,6] rfl,trivial⟩
 refine y6 (fun st=>∃ M,S 1 M∧st=⟨⟨173,[(5,i64 1),(6,.msl 0 1 0 1)]⟩,[.cells z0 [.msl 1 1 0 2],.row z1 1 (bx (M 0))]⟩) (q8 hT ?_) ?_
 ·refine z3 ?_
  refine y7 (fun n s=>∃ (c:Nat) (jc:Int) (M:Z3),n+c=1∧jc=c∧S c M∧s=⟨⟨173,[(5,i64 1),(6,.msl 0 1 0 1),(9,i64 jc)]⟩,[.cells z0 [.msl 1 1 0 2],.row z1 1 (bx (M 0))]⟩) 1 ⟨⟨173,_⟩,_⟩ (q7 [0,1] [5,6,9] rfl) ⟨0,0,M0,rfl,rfl,h0,rfl⟩ ?_
  rintro n s ⟨c,jc,M,hnc,hjc,hM,rfl⟩
  refine z8 (q8 hT ?_)
  refine z4 (y4 (fun h=>?_) (fun h=>?_))
  ·have h:=k0q (show decide (jc<((1:Nat):Int))=true from h)
   refine z5 ?_
   subst hjc
   let C:=c
   have hC:C<1:=by show c<1;omega
   have hM:S C M:=hM
   have hlen:=sLen hM
   have hc4:c=0:=by omega
   refine y6 (fun st=>∃ M,S (C+1) M∧st=⟨⟨173,[(5,i64 1),(6,.msl 0 1 0 1),(9,i64 C)]⟩,[.cells z0 [.msl 1 1 0 2],.row z1 1 (bx (M 0))]⟩) (z3 ?_) ?_
   ·rcases hc4 with rfl
    all_goals
     refine q8 hT ?_
     refine y6 (fun st=>∃ p:Nat,(C≤p∧p<1∧(M p).getD C 0≠0)∧st=⟨⟨173,[(5,i64 1),(6,.msl 0 1 0 1),(9,i64 C),(10,i64 p)]⟩,[.cells z0 [.msl 1 1 0 2],.row z1 1 (bx (M 0))]⟩) (z3 ?_) ?_
     ·refine y7 (fun n s=>∃ (p:Nat) (jp:Int),n+p=1∧jp=p∧C≤p∧p<1∧(∀ j,C≤j→j<p→(M j).getD C 0=0)∧s=⟨⟨173,[(5,i64 1),(6,.msl 0 1 0 1),(9,i64 C),(10,i64 jp)]⟩,[.cells z0 [.msl 1 1 0 2],.row z1 1 (bx (M 0))]⟩) (1 - C) ⟨⟨173,_⟩,_⟩ (q7 [0,1] [5,6,9,10] rfl) ⟨C,C,rfl,rfl,k1w _,hC,fun j h1 h2=>by omega,rfl⟩ ?_
      rintro n s ⟨p,jp,hnp,hjp,hp1,hp2,hz,rfl⟩
      subst hjp
      have hp4:p=0:=by omega
      let P:=p
      have hz:∀ j,C≤j→j<P→(M j).getD C 0=0:=hz
      have hp1:C≤P:=hp1
      have hp2:P<1:=hp2
      have hnp:n+P=1:=hnp
      rcases hp4 with rfl
      all_goals
       have hg:=Q3 (l:=M P) (c:=C) (by rw[hlen P hp2];omega)
       generalize hv:(M P).getD C 0=v at hg
       have hgx:(bx (M P))[0+((C:Nat):Int).toNat]?=some [u8 v]:=u7 hg
       refine z8 (q8 hT ?_)
       first
        |refine z4 ?_
         refine x6 ?_
         exact⟨_,q7 [0,1] [5,6,9,10] rfl,P,⟨hp1,hp2,fun e=>sPiv hM hC fun q h1 h2=>by
          by_cases e2:q=P
          ·rw[e2];exact e
          ·exact hz q h1 (by show q<P;have h2:q<P+1:=h2;omega)⟩,rfl⟩
        |refine⟨by decide,?_⟩
         refine⟨⟨by omega,by omega⟩,?_⟩
         refine w9 hgx ?_
         refine z4 (y4 (fun h=>?_) (fun h=>?_))
         ·have h:(((v.toNat:Nat):Int)==0)=true:=h
          rw[beq_iff_eq]at h
          have hv0:v=0:=UInt8.toNat_inj.mp (by show v.toNat=0;omega)
          refine z5 ?_
          refine z3 ?_
          refine q9 hT ?_
          exact⟨n - 1,by omega,_,q7 [0,1] [5,6,9,10] rfl,P+1,_,by omega,(show _=((P:Nat):Int)+1 from y8 _ (by omega) (by omega)),by omega,(by show P+1+1≤1;exact Nat.le_of_ble_eq_true rfl),fun j h1 h2=>by
           by_cases e2:j=P
           ·rw[e2,hv];exact hv0
           ·exact hz j h1 (by omega),rfl⟩
         ·have h:(((v.toNat:Nat):Int)==0)=false:=h
          have hne:v≠0:=fun e=>by rw[e]at h;exact absurd h (by decide)
          refine x6 ?_
          exact⟨_,q7 [0,1] [5,6,9,10] rfl,P,⟨hp1,hp2,by rw[hv];exact hne⟩,rfl⟩
     rintro _ ⟨p,⟨hp1,hp2,hpv⟩,rfl⟩
     obtain⟨M1,hM1e⟩:∃ M1,M1=swp M C p:=⟨_,rfl⟩
     have hM1:S C M1:=by rw[hM1e];exact sSwap hM hC hp1 hp2
     have hM1p:(M1 C).getD C 0≠0:=by rw[hM1e,x2b];exact hpv
     have hp4:p=0:=by omega
     refine z7 ⟨⟨173,[(5,i64 1),(6,.msl 0 1 0 1),(9,i64 C),(10,i64 p),(11,.msl (1+C) 1 0 2)]⟩,[.cells z0 [.msl 1 1 0 2],.row z1 1 (bx (M 0))]⟩ True (q9 hT ?_) (fun _=>?_)
     ·refine⟨by omega,?_⟩
      exact⟨q7 [0,1] [5,6,9,10,11] rfl,trivial⟩
     refine y6 (fun st=>st=⟨⟨173,[(5,i64 1),(6,.msl 0 1 0 1),(9,i64 C),(10,i64 p),(11,.msl (1+C) 1 0 2)]⟩,[.cells z0 [.msl (sc C p 0) 1 0 2],.row z1 1 (bx (M 0))]⟩) ?_ ?_
     ·rcases hp4 with rfl
      all_goals
       refine q9 hT ?_
       refine⟨by omega,?_⟩
       refine⟨by omega,?_⟩
       exact⟨_,q7 [0,1] [5,6,9,10,11] rfl,rfl⟩
     rintro _ rfl
     refine y6 (fun st=>∃ N,N=M1∧st=⟨⟨173,[(5,i64 1),(6,.msl 0 1 0 1),(9,i64 C)]⟩,[.cells z0 [.msl 1 1 0 2],.row z1 1 (bx (N 0))]⟩) ?_ ?_
     ·let P:=p
      have hM1e:M1=swp M C P:=hM1e
      rcases hp4 with rfl
      all_goals
       refine q9 hT ?_
       refine⟨by omega,?_⟩
       exact⟨_,q7 [0,sw C P 0] [5,6,9] rfl,swp M C P,hM1e.symm,rfl⟩
     rintro _ ⟨_,rfl,rfl⟩
     clear hM1e hpv hlen hM hp4 hp1 hp2
     refine q8 hT ?_
     refine z3 ?_
     refine y7 (fun n s=>∃ (k:Nat) (j:Int) (M:Z3),n+k=1∧j=k∧E C k M∧s=⟨⟨173,[(5,i64 1),(6,.msl 0 1 0 1),(9,i64 C),(12,i64 j)]⟩,[.cells z0 [.msl 1 1 0 2],.row z1 1 (bx (M 0))]⟩) 1 ⟨⟨173,_⟩,_⟩ (q7 [0,1] [5,6,9,12] rfl) ⟨0,0,_,rfl,rfl,sFirst hM1 hM1p,rfl⟩ ?_
     clear hM1 hM1p
     rintro n2 s ⟨k,j,M,hnk,hj,hE,rfl⟩
     refine z8 (q8 hT ?_)
     refine z4 (y4 (fun h=>?_) (fun h=>?_))
     ·have h:=k0q (show decide (j<((1:Nat):Int))=true from h)
      refine z5 ?_
      have hk4:k=0:=by omega
      subst hj
      refine y6 (fun st=>∃ M',E C (k+1) M'∧st=⟨⟨173,[(5,i64 1),(6,.msl 0 1 0 1),(9,i64 C),(12,i64 k)]⟩,[.cells z0 [.msl 1 1 0 2],.row z1 1 (bx (M' 0))]⟩) (z3 ?_) ?_
      ·let K:=k
       have hkr:K<1:=by show k<1;omega
       have hE:E C K M:=hE
       rcases hk4 with rfl
       all_goals
        have l1:=sELen hE
        have hvc:=sEPiv hE
        have hkl:=l1 K hkr
        have hcl:=l1 C hC
        have hgc:=Q3 (l:=M C) (c:=C) (by rw[hcl];omega)
        have hgk:=Q3 (l:=M K) (c:=C) (by rw[hkl];omega)
        first
         |have hEl:=sSkip hE
          refine z8 (q8 hT ?_)
          refine z4 ?_
          refine x6 ?_
          exact⟨_,q7 [0,1] [5,6,9,12] rfl,M,hEl,rfl⟩
         |have hEl:=sEl hE hC hkr (Nat.ne_of_beq_eq_false rfl)
          generalize (M C).getD C 0=v at hgc hvc hEl
          generalize (M K).getD C 0=x at hgk hEl
          have hEl:=hEl _ rfl
          have w:=wD x v hvc
          generalize Gf.mul x (Gf.inv v)=q at hEl w
          have hcx:(bx (M C))[0+((C:Nat):Int).toNat]?=some [u8 v]:=u7 hgc
          have hkx:(bx (M K))[0+((C:Nat):Int).toNat]?=some [u8 x]:=u7 hgk
          refine z8 (q8 hT ?_)
          refine⟨by omega,?_⟩
          refine⟨⟨by omega,by omega⟩,?_⟩
          refine w9 hcx ?_
          refine z4 (y4 (fun h=>?_) (fun h=>?_))
          ·have h:(((v.toNat:Nat):Int)==0)=true:=h
           rw[beq_iff_eq]at h
           exact absurd (UInt8.toNat_inj.mp (by show v.toNat=0;omega)) hvc
          refine z5 ?_
          refine z7 ⟨⟨173,[(5,i64 1),(6,.msl 0 1 0 1),(9,i64 C),(12,i64 K),(13,.p (u8 q))]⟩,[.cells z0 [.msl 1 1 0 2],.row z1 1 (bx (M 0))]⟩ True ?_ (fun _=>?_)
          ·refine v7 [] [] hT y5 (by rfl) ?_
           refine⟨by omega,?_⟩
           refine⟨⟨by omega,by omega⟩,?_⟩
           refine w9 hkx ?_
           refine⟨by omega,?_⟩
           refine⟨⟨by omega,by omega⟩,?_⟩
           refine w9 hcx ?_
           refine⟨_,w7 w _ rfl rfl,?_⟩
           exact⟨q7 [0,1] [5,6,9,12,13] rfl,trivial⟩
          clear w hcx hkx hgc hgk hvc
          have hkc:(M K).length=(M C).length:=by rw[hkl,hcl]
          have hRl:=q1t q hkc
          have hRg:=fun i h1 h2=>y3q (to:=M K) (row:=M C) q (i:=i) h1 h2
          generalize J4 (M K) (M C) q=R at hRl hRg hEl
          refine q8 hT ?_
          refine z3 ?_
          refine y7 (fun n s=>∃ (i:Nat) (ji:Int) (X:List (List PV)),n+i=2∧ji=i∧X=bx (q2c R (M K) i)∧s=⟨⟨173,[(5,i64 1),(6,.msl 0 1 0 1),(9,i64 C),(12,i64 K),(13,.p (u8 q)),(15,i64 ji)]⟩,[.cells z0 [.msl 1 1 0 2],.row z1 1 (q9s M K X 0)]⟩) 2 ⟨⟨173,_⟩,_⟩ (q7 [0,1] [5,6,9,12,13,15] rfl) ⟨0,0,bx (M K),rfl,rfl,by rw[x6s],rfl⟩ ?_
          rintro n3 s ⟨i,ji,X,hni,hji,hX,rfl⟩
          refine z8 (q8 hT ?_)
          refine z4 (y4 (fun h=>?_) (fun h=>?_))
          ·have h:=k0q (show decide (ji≤((1:Nat):Int))=true from h)
           have h1:i<(M K).length:=by omega
           have h2:i<(M C).length:=by omega
           refine z5 ?_
           have hmg:=q7p hRl h1
           have hcg:=k0x h2
           have hv:=hRg i h1 h2
           have hset:=q7q hRl h1 hv
           have w1:=wM q (M C)[i]
           have w2:=wA (M K)[i] (Gf.mul q (M C)[i])
           generalize (M K)[i]=u at hmg hset w2 hv
           generalize (M C)[i]=b at hcg hset w1 w2 hv
           generalize Gf.mul q b=qb at hset w1 w2 hv
           generalize u ^^^ qb=uq at hset w2 hv
           have hjk:0+ji.toNat=i:=by omega
           have hux:X[0+ji.toNat]?=some [u8 u]:=by rw[hjk,hX];exact u7 hmg
           have hbx:(bx (M C))[0+ji.toNat]?=some [u8 b]:=by rw[hjk];exact u7 hcg
           have hset2:X.set (0+ji.toNat) [u8 uq]=bx (q2c R (M K) (i+1)):=by rw[hjk,hX];exact hset
           refine y6 (fun st=>∃ X,X=bx (q2c R (M K) (i+1))∧st=⟨⟨173,[(5,i64 1),(6,.msl 0 1 0 1),(9,i64 C),(12,i64 K),(13,.p (u8 q)),(15,i64 ji)]⟩,[.cells z0 [.msl 1 1 0 2],.row z1 1 (q9s M K X 0)]⟩) (z3 (q8 hT ?_)) ?_
           ·refine⟨by omega,?_⟩
            refine⟨⟨by omega,by omega⟩,?_⟩
            refine w9 hbx ?_
            refine x7 (w7 w1 _ rfl rfl) ?_
            refine v7 [15] [] hT y5 (by rfl) ?_
            refine⟨by omega,?_⟩
            refine⟨by omega,?_⟩
            refine⟨⟨by omega,by omega⟩,?_⟩
            refine w9 hux ?_
            refine⟨_,w7 w2 _ rfl rfl,?_⟩
            refine⟨⟨by omega,by omega⟩,?_⟩
            refine w9 hux ?_
            repeat first|refine⟨rfl,?_⟩|refine⟨⟨by omega,rfl⟩,?_⟩|refine⟨⟨_,w7 w2 _ rfl rfl,rfl⟩,?_⟩|refine⟨⟨⟨by omega,by omega⟩,rfl⟩,?_⟩|refine⟨w9 hux rfl,?_⟩
            exact⟨_,q7 [0,1] [5,6,9,12,13,15] rfl,_,hset2,rfl⟩
           ·rintro _ ⟨X,hX,rfl⟩
            refine q9 hT ?_
            exact⟨n3 - 1,by omega,_,q7 [0,1] [5,6,9,12,13,15] rfl,i+1,IntKind.i64.wrap (ji+1),X,by omega,by rw[y8 _ (by omega) (by omega)];omega,hX,rfl⟩
          ·have h:=k0z (show decide (ji≤((1:Nat):Int))=false from h)
           rw[show i=(M K).length by omega,q7n hRl]at hX
           rw[hX]
           refine x6 ?_
           exact⟨_,q7 [0,1] [5,6,9,12] rfl,U5 M K R,hEl,rfl⟩
      ·rintro _ ⟨M',hM',rfl⟩
       refine q9 hT ?_
       exact⟨n2 - 1,by omega,_,q7 [0,1] [5,6,9,12] rfl,k+1,IntKind.i64.wrap ((k:Int)+1),M',by omega,by rw[y8 _ (by omega) (by omega)];rfl,hM',rfl⟩
     ·have h:=k0z (show decide (j<((1:Nat):Int))=false from h)
      rw[show k=1 by omega]at hE
      refine x6 ?_
      exact⟨_,q7 [0,1] [5,6,9] rfl,M,sNext hE,rfl⟩
   ·rintro _ ⟨M,hM,rfl⟩
    refine q9 hT ?_
    exact⟨n - 1,by omega,_,q7 [0,1] [5,6,9] rfl,c+1,IntKind.i64.wrap ((c:Int)+1),M,by omega,by rw[y8 _ (by omega) (by omega)];rfl,hM,rfl⟩
  ·have h:=k0z (show decide (jc<((1:Nat):Int))=false from h)
   rw[show c=1 by omega]at hM
   refine x6 ?_
   exact⟨_,q7 [0,1] [5,6] rfl,M,hM,rfl⟩
 rintro _ ⟨M,hM,rfl⟩
 have hlen:=sLen hM
 have he:=hend M hM
 clear h0 hend sLen sSwap sPiv sFirst sSkip sEl sELen sEPiv sNext hM
 refine z7 ⟨⟨173,[(5,i64 1),(6,.msl 0 1 0 1),(17,.msl 2 1 0 0)]⟩,[.cells z0 [.msl 1 1 0 2],.row z1 1 (bx (M 0)),.row z1 1 (bx [])]⟩ True (q9 hT ?_) (fun _=>?_)
 ·exact⟨Wk.trans (Q2 z1 1) (Wk.trans (V6 17 2 1 0 rfl) (q7 [0,1,2] [5,6,17] rfl)),trivial⟩
 refine y6 (fun st=>∃ X,X=Z∧st=⟨⟨173,[(17,.msl 0 1 0 (bx X).length)]⟩,[.row z1 1 (bx X)]⟩) (q8 hT ?_) ?_
 ·refine z3 ?_
  refine y7 (fun n s=>∃ (i:Nat) (ji:Int) (X:z6),n+i=1∧ji=i∧X=Z.take i∧s=⟨⟨173,[(5,i64 1),(6,.msl 0 1 0 1),(17,.msl 2 1 0 (bx X).length),(18,i64 ji)]⟩,[.cells z0 [.msl 1 1 0 2],.row z1 1 (bx (M 0)),.row z1 1 (bx X)]⟩) 1 ⟨⟨173,_⟩,_⟩ (q7 [0,1,2] [5,6,17,18] rfl) ⟨0,0,[],rfl,rfl,rfl,rfl⟩ ?_
  rintro n s ⟨i,ji,X,hni,hji,hX,rfl⟩
  refine z8 (q8 hT ?_)
  refine z4 (y4 (fun h=>?_) (fun h=>?_))
  ·have h:=k0q (show decide (ji<((1:Nat):Int))=true from h)
   refine z5 ?_
   have hi4:i=0:=by omega
   subst hji
   have hXl:(bx X).length≤1:=by rw[w6,hX,k2u];omega
   refine y6 (fun st=>∃ X',X'=Z.take (i+1)∧st=⟨⟨173,[(5,i64 1),(6,.msl 0 1 0 1),(17,.msl 2 1 0 (bx X').length),(18,i64 i)]⟩,[.cells z0 [.msl 1 1 0 2],.row z1 1 (bx (M 0)),.row z1 1 (bx X')]⟩) (z3 (z8 ?_)) ?_
   ·let I:=i
    have hI:I<1:=by show i<1;omega
    have hX:X=Z.take I:=hX
    rcases hi4 with rfl
    all_goals
     obtain⟨hne,hq⟩:=he I hI
     have hzi:=hzg I hI
     rw[← hq]at hzi
     have hg1:=Q3 (l:=M I) (c:=1) (by rw[hlen I hI];decide)
     have hg2:=Q3 (l:=M I) (c:=I) (by rw[hlen I hI];omega)
     clear hq
     generalize (M I).getD 1 0=x at hg1 hzi
     generalize (M I).getD I 0=v at hg2 hzi hne
     have w:=wD x v hne
     generalize Gf.mul x (Gf.inv v)=q at hzi w
     have hx1:(bx (M I))[0+((1:Nat):Int).toNat]?=some [u8 x]:=u7 hg1
     have hx2:(bx (M I))[0+((I:Nat):Int).toNat]?=some [u8 v]:=u7 hg2
     refine v7 [] [] hT y5 (by rfl) ?_
     refine⟨by omega,?_⟩
     refine⟨⟨by decide,by decide⟩,?_⟩
     refine w9 hx1 ?_
     refine⟨by omega,?_⟩
     refine⟨⟨by omega,by omega⟩,?_⟩
     refine w9 hx2 ?_
     refine⟨_,w7 w _ rfl rfl,?_⟩
     refine q9 hT ?_
     refine⟨rfl,⟨by show ((bx X).length+1)*1≤_;omega,by show (bx X).length+1≤_;omega⟩,?_⟩
     refine⟨_,q7 [0,1,4] [5,6,17,18] rfl,X++[q],?_,?_⟩
     ·show X++[q]=Z.take (I+1)
      rw[k2t,hzi,hX];rfl
     ·rw[Y9];rfl
   ·rintro _ ⟨X,hX,rfl⟩
    refine q9 hT ?_
    exact⟨n - 1,by omega,_,q7 [0,1,2] [5,6,17,18] rfl,i+1,IntKind.i64.wrap ((i:Int)+1),X,by omega,by rw[y8 _ (by omega) (by omega)];rfl,hX,rfl⟩
  ·have h:=k0z (show decide (ji<((1:Nat):Int))=false from h)
   rw[k2z (by omega)]at hX
   refine x6 ?_
   exact⟨_,q7 [2] [17] rfl,X,hX,rfl⟩
 rintro _ ⟨X,rfl,rfl⟩
 refine u6 (Z6 17 0 _ rfl rfl rfl rfl) ?_
 refine q8 hT ?_
 refine y9 ?_
 exact z9 [] ⟨_,rfl,rfl,rfl⟩ rfl
theorem y9x (a0 a1 Y:z6)(hA:∀ s∈([a0,a1]:List z6),s.length=2)(hk:∀ x,q2t 2 (fun i=>([a0,a1]:List z6).getD i []) x→∀ j,j<2→x j=0)(hY:Y.length=2) :
 AF Tryz.prog J3 [.p (.sl 1 (z2 [a0,a1])),bA Y] [] (v8 (bA (q4r 2 [a0,a1] Y)) []):=by
 refine AF.mono (R:=fun r H'=>∃ z,z=q4r 2 [a0,a1] Y∧r=bA z∧H'=[]) ?_ (by rintro r H' ⟨z,rfl,rfl,rfl⟩;exact⟨rfl,rfl⟩)
 have ha0:a0.length=2:=hA a0 (by simp)
 have hx0:=w6 a0
 have hy0:(bx Y)[((0:Nat):Int).toNat]?=some [u8 (Y.getD 0 0)]:=u7 (Q3 (by omega))
 have ha1:a1.length=2:=hA a1 (by simp)
 have hx1:=w6 a1
 have hy1:(bx Y)[((1:Nat):Int).toNat]?=some [u8 (Y.getD 1 0)]:=u7 (Q3 (by omega))
 have h0:=z8n (r:=2) (L:=[a0,a1]) (y:=(fun j=>Y.getD j 0)) rfl hA hk
 have hend:=fun M (h:SolI 2 [a0,a1] (fun j=>Y.getD j 0) 2 M)=>y3p (r:=2) rfl hA hk h
 have hzl:=q5y 2 [a0,a1] Y
 have hzg:=fun i (hi:i<2)=>z2t [a0,a1] Y hi
 have wD:=q9f
 have wM:=q6v
 have wA:=q6u
 generalize q4r 2 [a0,a1] Y=Z at hzl hzg
 obtain⟨M0,hM0⟩:∃ M0:Z3,M0=fun i=>([a0,a1]:List z6).getD i []++[Y.getD i 0]:=⟨_,rfl⟩
 have hm0:bx (M0 0)=bx a0++[[u8 (Y.getD 0 0)]]:=by rw[hM0];exact Y9 _ _
 have hm1:bx (M0 1)=bx a1++[[u8 (Y.getD 1 0)]]:=by rw[hM0];exact Y9 _ _
 rw[show (fun i=>([a0,a1]:List z6).getD i []++[(fun j=>Y.getD j 0) i])=M0 from hM0.symm]at h0
 obtain⟨S,hS⟩:∃ S,S=SolI 2 [a0,a1] (fun j=>Y.getD j 0):=⟨_,rfl⟩
 obtain⟨E,hE⟩:∃ E,E=SolE 2 [a0,a1] (fun j=>Y.getD j 0):=⟨_,rfl⟩
 have sLen:∀ {c M},S c M→∀ i,i<2→(M i).length=3:=fun h=>by subst hS;exact h.len
 have sSwap:∀ {c p M},S c M→c<2→c≤p→p<2→S c (swp M c p):=fun h h1 h2 h3=>by subst hS;exact z8p h h1 h2 h3
 have sPiv:∀ {c M},S c M→c<2→(∀ p,c≤p→p<2→(M p).getD c 0=0)→False:=fun h h1 h2=>by subst hS;exact y3n h h1 h2
 have sFirst:∀ {c M},S c M→(M c).getD c 0≠0→E c 0 M:=fun h h1=>by subst hS hE;exact z4f h h1
 have sSkip:∀ {c M},E c c M→E c (c+1) M:=fun h=>by subst hE;exact z8q h
 have sEl:∀ {c k M},E c k M→c<2→k<2→k≠c→∀ q,q=Gf.mul ((M k).getD c 0) (Gf.inv ((M c).getD c 0))→E c (k+1) (U5 M k (J4 (M k) (M c) q)):=fun h h1 h2 h3 q hq=>by subst hE;exact x6r h h1 h2 h3 q hq
 have sELen:∀ {c k M},E c k M→∀ i,i<2→(M i).length=3:=fun h=>by subst hE;exact h.sol.len
 have sEPiv:∀ {c k M},E c k M→(M c).getD c 0≠0:=fun h=>by subst hE;exact h.piv
 have sNext:∀ {c M},E c 2 M→S (c+1) M:=fun h=>by subst hS hE;exact z8r h
 rw[← hS]at h0 hend
 clear hS hE hk hA
 refine v6 hT q4h rfl rfl q4i rfl ?_
 refine q8 hT ?_
 refine z7 ⟨⟨173,[(0,.p (.sl 1 (z2 [a0,a1]))),(1,bA Y),(5,i64 2)]⟩,[]⟩ True (q9 hT ?_) (fun _=>?_)
 ·exact⟨q7 [] [0,1,5] rfl,trivial⟩
 refine z7 ⟨⟨173,[(0,.p (.sl 1 (z2 [a0,a1]))),(1,bA Y),(5,i64 2),(6,.p (.raw (.slice none 0 0)))]⟩,[]⟩ True (q9 hT ?_) (fun _=>?_)
 ·exact⟨q7 [] [0,1,5,6] rfl,trivial⟩
 refine z7 ⟨⟨173,[(5,i64 2),(6,.msl 0 1 0 2)]⟩,[.cells z0 [.msl 1 1 0 3,.msl 2 1 0 3],.row z1 1 (bx (M0 0)),.row z1 1 (bx (M0 1))]⟩ True (q8 hT ?_) (fun _=>?_)
 ·refine z3 ?_
  refine y7 (fun n s=>(n=2∧s=⟨⟨173,[(0,.p (.sl 1 (z2 [a0,a1]))),(1,bA Y),(5,i64 2),(6,.p (.raw (.slice none 0 0))),(7,i64 0)]⟩,[]⟩)∨(n=1∧s=⟨⟨173,[(0,.p (.sl 1 (z2 [a0,a1]))),(1,bA Y),(5,i64 2),(6,.msl 0 1 0 1),(7,i64 1)]⟩,[.cells z0 [.msl 1 1 0 3],.row z1 1 (bx (M0 0))]⟩)∨(n=0∧s=⟨⟨173,[(0,.p (.sl 1 (z2 [a0,a1]))),(1,bA Y),(5,i64 2),(6,.msl 0 1 0 2),(7,i64 2)]⟩,[.cells z0 [.msl 1 1 0 3,.msl 2 1 0 3],.row z1 1 (bx (M0 0)),.row z1 1 (bx (M0 1))]⟩)) 2 ⟨⟨173,_⟩,_⟩ (q7 [] [0,1,5,6,7] rfl) (.inl ⟨rfl,rfl⟩) ?_
  rintro n s (⟨rfl,rfl⟩|⟨rfl,rfl⟩|⟨rfl,rfl⟩)
  ·refine z8 (q8 hT ?_)
   refine z4 ?_
   refine z5 ?_
   refine y6 (fun st=>∃ (n:Nat) (X:List (List PV)),n=3∧X=bx (M0 0)∧st=⟨⟨173,[(0,.p (.sl 1 (z2 [a0,a1]))),(1,bA Y),(5,i64 2),(6,.msl 0 1 0 1),(7,i64 0)]⟩,[.cells z0 [.msl 1 1 0 n],.row z1 1 (X)]⟩) (z3 (q8 hT ?_)) ?_
   ·refine⟨by decide,w9 rfl ?_⟩
    refine⟨⟨by show (bx a0).length*1≤_;omega,by omega⟩,?_⟩
    refine q9 hT ?_
    refine⟨by omega,w9 hy0 ?_⟩
    refine⟨rfl,⟨by show ((bx a0).length+1)*1≤_;omega,by show (bx a0).length+1≤_;omega⟩,?_⟩
    refine⟨⟨(show (1:Nat)*24≤140737488355328 by decide),(show (1:Nat)≤140737488355328 by decide)⟩,?_⟩
    refine⟨_,q7 [4,2] [0,1,5,6,7] rfl,_,_,?_,hm0.symm,rfl⟩
    show (bx a0++[[u8 (Y.getD 0 0)]]).length=3
    rw[k1z,hx0,ha0];rfl
   ·rintro _ ⟨n,X,rfl,rfl,rfl⟩
    refine q9 hT ?_
    exact⟨1,by decide,_,q7 [0,1] [0,1,5,6,7] rfl,(.inr (.inl ⟨rfl,rfl⟩))⟩
  ·refine z8 (q8 hT ?_)
   refine z4 ?_
   refine z5 ?_
   refine y6 (fun st=>∃ (n:Nat) (X:List (List PV)),n=3∧X=bx (M0 1)∧st=⟨⟨173,[(0,.p (.sl 1 (z2 [a0,a1]))),(1,bA Y),(5,i64 2),(6,.msl 0 1 0 2),(7,i64 1)]⟩,[.cells z0 [.msl 1 1 0 3,.msl 2 1 0 n],.row z1 1 (bx (M0 0)),.row z1 1 (X)]⟩) (z3 (q8 hT ?_)) ?_
   ·refine⟨by decide,w9 rfl ?_⟩
    refine⟨⟨by show (bx a1).length*1≤_;omega,by omega⟩,?_⟩
    refine q9 hT ?_
    refine⟨by omega,w9 hy1 ?_⟩
    refine⟨rfl,⟨by show ((bx a1).length+1)*1≤_;omega,by show (bx a1).length+1≤_;omega⟩,?_⟩
    refine⟨⟨(show (2:Nat)*24≤140737488355328 by decide),(show (2:Nat)≤140737488355328 by decide)⟩,?_⟩
    refine⟨_,q7 [6,1,4] [0,1,5,6,7] rfl,_,_,?_,hm1.symm,rfl⟩
    show (bx a1++[[u8 (Y.getD 1 0)]]).length=3
    rw[k1z,hx1,ha1];rfl
   ·rintro _ ⟨n,X,rfl,rfl,rfl⟩
    refine q9 hT ?_
    exact⟨0,by decide,_,q7 [0,1,2] [0,1,5,6,7] rfl,(.inr (.inr ⟨rfl,rfl⟩))⟩
  ·refine z8 (q8 hT ?_)
   refine z4 ?_
   refine x6 ?_
   exact⟨q7 [0,1,2] [5,6] rfl,trivial⟩
 refine y6 (fun st=>∃ M,S 2 M∧st=⟨⟨173,[(5,i64 2),(6,.msl 0 1 0 2)]⟩,[.cells z0 [.msl 1 1 0 3,.msl 2 1 0 3],.row z1 1 (bx (M 0)),.row z1 1 (bx (M 1))]⟩) (q8 hT ?_) ?_
 ·refine z3 ?_
  refine y7 (fun n s=>∃ (c:Nat) (jc:Int) (M:Z3),n+c=2∧jc=c∧S c M∧s=⟨⟨173,[(5,i64 2),(6,.msl 0 1 0 2),(9,i64 jc)]⟩,[.cells z0 [.msl 1 1 0 3,.msl 2 1 0 3],.row z1 1 (bx (M 0)),.row z1 1 (bx (M 1))]⟩) 2 ⟨⟨173,_⟩,_⟩ (q7 [0,1,2] [5,6,9] rfl) ⟨0,0,M0,rfl,rfl,h0,rfl⟩ ?_
  rintro n s ⟨c,jc,M,hnc,hjc,hM,rfl⟩
  refine z8 (q8 hT ?_)
  refine z4 (y4 (fun h=>?_) (fun h=>?_))
  ·have h:=k0q (show decide (jc<((2:Nat):Int))=true from h)
   refine z5 ?_
   subst hjc
   let C:=c
   have hC:C<2:=by show c<2;omega
   have hM:S C M:=hM
   have hlen:=sLen hM
   have hc4:c=0∨c=1:=by omega
   refine y6 (fun st=>∃ M,S (C+1) M∧st=⟨⟨173,[(5,i64 2),(6,.msl 0 1 0 2),(9,i64 C)]⟩,[.cells z0 [.msl 1 1 0 3,.msl 2 1 0 3],.row z1 1 (bx (M 0)),.row z1 1 (bx (M 1))]⟩) (z3 ?_) ?_
   ·rcases hc4 with rfl|rfl
    all_goals
     refine q8 hT ?_
     refine y6 (fun st=>∃ p:Nat,(C≤p∧p<2∧(M p).getD C 0≠0)∧st=⟨⟨173,[(5,i64 2),(6,.msl 0 1 0 2),(9,i64 C),(10,i64 p)]⟩,[.cells z0 [.msl 1 1 0 3,.msl 2 1 0 3],.row z1 1 (bx (M 0)),.row z1 1 (bx (M 1))]⟩) (z3 ?_) ?_
     ·refine y7 (fun n s=>∃ (p:Nat) (jp:Int),n+p=2∧jp=p∧C≤p∧p<2∧(∀ j,C≤j→j<p→(M j).getD C 0=0)∧s=⟨⟨173,[(5,i64 2),(6,.msl 0 1 0 2),(9,i64 C),(10,i64 jp)]⟩,[.cells z0 [.msl 1 1 0 3,.msl 2 1 0 3],.row z1 1 (bx (M 0)),.row z1 1 (bx (M 1))]⟩) (2 - C) ⟨⟨173,_⟩,_⟩ (q7 [0,1,2] [5,6,9,10] rfl) ⟨C,C,rfl,rfl,k1w _,hC,fun j h1 h2=>by omega,rfl⟩ ?_
      rintro n s ⟨p,jp,hnp,hjp,hp1,hp2,hz,rfl⟩
      subst hjp
      have hp4:p=0∨p=1:=by omega
      let P:=p
      have hz:∀ j,C≤j→j<P→(M j).getD C 0=0:=hz
      have hp1:C≤P:=hp1
      have hp2:P<2:=hp2
      have hnp:n+P=2:=hnp
      rcases hp4 with rfl|rfl
      all_goals
       have hg:=Q3 (l:=M P) (c:=C) (by rw[hlen P hp2];omega)
       generalize hv:(M P).getD C 0=v at hg
       have hgx:(bx (M P))[0+((C:Nat):Int).toNat]?=some [u8 v]:=u7 hg
       refine z8 (q8 hT ?_)
       first
        |refine z4 ?_
         refine x6 ?_
         exact⟨_,q7 [0,1,2] [5,6,9,10] rfl,P,⟨hp1,hp2,fun e=>sPiv hM hC fun q h1 h2=>by
          by_cases e2:q=P
          ·rw[e2];exact e
          ·exact hz q h1 (by show q<P;have h2:q<P+1:=h2;omega)⟩,rfl⟩
        |refine⟨by decide,?_⟩
         refine⟨⟨by omega,by omega⟩,?_⟩
         refine w9 hgx ?_
         refine z4 (y4 (fun h=>?_) (fun h=>?_))
         ·have h:(((v.toNat:Nat):Int)==0)=true:=h
          rw[beq_iff_eq]at h
          have hv0:v=0:=UInt8.toNat_inj.mp (by show v.toNat=0;omega)
          refine z5 ?_
          refine z3 ?_
          refine q9 hT ?_
          exact⟨n - 1,by omega,_,q7 [0,1,2] [5,6,9,10] rfl,P+1,_,by omega,(show _=((P:Nat):Int)+1 from y8 _ (by omega) (by omega)),by omega,(by show P+1+1≤2;exact Nat.le_of_ble_eq_true rfl),fun j h1 h2=>by
           by_cases e2:j=P
           ·rw[e2,hv];exact hv0
           ·exact hz j h1 (by omega),rfl⟩
         ·have h:(((v.toNat:Nat):Int)==0)=false:=h
          have hne:v≠0:=fun e=>by rw[e]at h;exact absurd h (by decide)
          refine x6 ?_
          exact⟨_,q7 [0,1,2] [5,6,9,10] rfl,P,⟨hp1,hp2,by rw[hv];exact hne⟩,rfl⟩
     rintro _ ⟨p,⟨hp1,hp2,hpv⟩,rfl⟩
     obtain⟨M1,hM1e⟩:∃ M1,M1=swp M C p:=⟨_,rfl⟩
     have hM1:S C M1:=by rw[hM1e];exact sSwap hM hC hp1 hp2
     have hM1p:(M1 C).getD C 0≠0:=by rw[hM1e,x2b];exact hpv
     have hp4:p=0∨p=1:=by omega
     refine z7 ⟨⟨173,[(5,i64 2),(6,.msl 0 1 0 2),(9,i64 C),(10,i64 p),(11,.msl (1+C) 1 0 3)]⟩,[.cells z0 [.msl 1 1 0 3,.msl 2 1 0 3],.row z1 1 (bx (M 0)),.row z1 1 (bx (M 1))]⟩ True (q9 hT ?_) (fun _=>?_)
     ·refine⟨by omega,?_⟩
      exact⟨q7 [0,1,2] [5,6,9,10,11] rfl,trivial⟩
     refine y6 (fun st=>st=⟨⟨173,[(5,i64 2),(6,.msl 0 1 0 2),(9,i64 C),(10,i64 p),(11,.msl (1+C) 1 0 3)]⟩,[.cells z0 [.msl (sc C p 0) 1 0 3,.msl (sc C p 1) 1 0 3],.row z1 1 (bx (M 0)),.row z1 1 (bx (M 1))]⟩) ?_ ?_
     ·rcases hp4 with rfl|rfl
      all_goals
       refine q9 hT ?_
       refine⟨by omega,?_⟩
       refine⟨by omega,?_⟩
       exact⟨_,q7 [0,1,2] [5,6,9,10,11] rfl,rfl⟩
     rintro _ rfl
     refine y6 (fun st=>∃ N,N=M1∧st=⟨⟨173,[(5,i64 2),(6,.msl 0 1 0 2),(9,i64 C)]⟩,[.cells z0 [.msl 1 1 0 3,.msl 2 1 0 3],.row z1 1 (bx (N 0)),.row z1 1 (bx (N 1))]⟩) ?_ ?_
     ·let P:=p
      have hM1e:M1=swp M C P:=hM1e
      rcases hp4 with rfl|rfl
      all_goals
       refine q9 hT ?_
       refine⟨by omega,?_⟩
       exact⟨_,q7 [0,sw C P 0,sw C P 1] [5,6,9] rfl,swp M C P,hM1e.symm,rfl⟩
     rintro _ ⟨_,rfl,rfl⟩
     clear hM1e hpv hlen hM hp4 hp1 hp2
     refine q8 hT ?_
     refine z3 ?_
     refine y7 (fun n s=>∃ (k:Nat) (j:Int) (M:Z3),n+k=2∧j=k∧E C k M∧s=⟨⟨173,[(5,i64 2),(6,.msl 0 1 0 2),(9,i64 C),(12,i64 j)]⟩,[.cells z0 [.msl 1 1 0 3,.msl 2 1 0 3],.row z1 1 (bx (M 0)),.row z1 1 (bx (M 1))]⟩) 2 ⟨⟨173,_⟩,_⟩ (q7 [0,1,2] [5,6,9,12] rfl) ⟨0,0,_,rfl,rfl,sFirst hM1 hM1p,rfl⟩ ?_
     clear hM1 hM1p
     rintro n2 s ⟨k,j,M,hnk,hj,hE,rfl⟩
     refine z8 (q8 hT ?_)
     refine z4 (y4 (fun h=>?_) (fun h=>?_))
     ·have h:=k0q (show decide (j<((2:Nat):Int))=true from h)
      refine z5 ?_
      have hk4:k=0∨k=1:=by omega
      subst hj
      refine y6 (fun st=>∃ M',E C (k+1) M'∧st=⟨⟨173,[(5,i64 2),(6,.msl 0 1 0 2),(9,i64 C),(12,i64 k)]⟩,[.cells z0 [.msl 1 1 0 3,.msl 2 1 0 3],.row z1 1 (bx (M' 0)),.row z1 1 (bx (M' 1))]⟩) (z3 ?_) ?_
      ·let K:=k
       have hkr:K<2:=by show k<2;omega
       have hE:E C K M:=hE
       rcases hk4 with rfl|rfl
       all_goals
        have l1:=sELen hE
        have hvc:=sEPiv hE
        have hkl:=l1 K hkr
        have hcl:=l1 C hC
        have hgc:=Q3 (l:=M C) (c:=C) (by rw[hcl];omega)
        have hgk:=Q3 (l:=M K) (c:=C) (by rw[hkl];omega)
        first
         |have hEl:=sSkip hE
          refine z8 (q8 hT ?_)
          refine z4 ?_
          refine x6 ?_
          exact⟨_,q7 [0,1,2] [5,6,9,12] rfl,M,hEl,rfl⟩
         |have hEl:=sEl hE hC hkr (Nat.ne_of_beq_eq_false rfl)
          generalize (M C).getD C 0=v at hgc hvc hEl
          generalize (M K).getD C 0=x at hgk hEl
          have hEl:=hEl _ rfl
          have w:=wD x v hvc
          generalize Gf.mul x (Gf.inv v)=q at hEl w
          have hcx:(bx (M C))[0+((C:Nat):Int).toNat]?=some [u8 v]:=u7 hgc
          have hkx:(bx (M K))[0+((C:Nat):Int).toNat]?=some [u8 x]:=u7 hgk
          refine z8 (q8 hT ?_)
          refine⟨by omega,?_⟩
          refine⟨⟨by omega,by omega⟩,?_⟩
          refine w9 hcx ?_
          refine z4 (y4 (fun h=>?_) (fun h=>?_))
          ·have h:(((v.toNat:Nat):Int)==0)=true:=h
           rw[beq_iff_eq]at h
           exact absurd (UInt8.toNat_inj.mp (by show v.toNat=0;omega)) hvc
          refine z5 ?_
          refine z7 ⟨⟨173,[(5,i64 2),(6,.msl 0 1 0 2),(9,i64 C),(12,i64 K),(13,.p (u8 q))]⟩,[.cells z0 [.msl 1 1 0 3,.msl 2 1 0 3],.row z1 1 (bx (M 0)),.row z1 1 (bx (M 1))]⟩ True ?_ (fun _=>?_)
          ·refine v7 [] [] hT y5 (by rfl) ?_
           refine⟨by omega,?_⟩
           refine⟨⟨by omega,by omega⟩,?_⟩
           refine w9 hkx ?_
           refine⟨by omega,?_⟩
           refine⟨⟨by omega,by omega⟩,?_⟩
           refine w9 hcx ?_
           refine⟨_,w7 w _ rfl rfl,?_⟩
           exact⟨q7 [0,1,2] [5,6,9,12,13] rfl,trivial⟩
          clear w hcx hkx hgc hgk hvc
          have hkc:(M K).length=(M C).length:=by rw[hkl,hcl]
          have hRl:=q1t q hkc
          have hRg:=fun i h1 h2=>y3q (to:=M K) (row:=M C) q (i:=i) h1 h2
          generalize J4 (M K) (M C) q=R at hRl hRg hEl
          refine q8 hT ?_
          refine z3 ?_
          refine y7 (fun n s=>∃ (i:Nat) (ji:Int) (X:List (List PV)),n+i=3∧ji=i∧X=bx (q2c R (M K) i)∧s=⟨⟨173,[(5,i64 2),(6,.msl 0 1 0 2),(9,i64 C),(12,i64 K),(13,.p (u8 q)),(15,i64 ji)]⟩,[.cells z0 [.msl 1 1 0 3,.msl 2 1 0 3],.row z1 1 (q9s M K X 0),.row z1 1 (q9s M K X 1)]⟩) 3 ⟨⟨173,_⟩,_⟩ (q7 [0,1,2] [5,6,9,12,13,15] rfl) ⟨0,0,bx (M K),rfl,rfl,by rw[x6s],rfl⟩ ?_
          rintro n3 s ⟨i,ji,X,hni,hji,hX,rfl⟩
          refine z8 (q8 hT ?_)
          refine z4 (y4 (fun h=>?_) (fun h=>?_))
          ·have h:=k0q (show decide (ji≤((2:Nat):Int))=true from h)
           have h1:i<(M K).length:=by omega
           have h2:i<(M C).length:=by omega
           refine z5 ?_
           have hmg:=q7p hRl h1
           have hcg:=k0x h2
           have hv:=hRg i h1 h2
           have hset:=q7q hRl h1 hv
           have w1:=wM q (M C)[i]
           have w2:=wA (M K)[i] (Gf.mul q (M C)[i])
           generalize (M K)[i]=u at hmg hset w2 hv
           generalize (M C)[i]=b at hcg hset w1 w2 hv
           generalize Gf.mul q b=qb at hset w1 w2 hv
           generalize u ^^^ qb=uq at hset w2 hv
           have hjk:0+ji.toNat=i:=by omega
           have hux:X[0+ji.toNat]?=some [u8 u]:=by rw[hjk,hX];exact u7 hmg
           have hbx:(bx (M C))[0+ji.toNat]?=some [u8 b]:=by rw[hjk];exact u7 hcg
           have hset2:X.set (0+ji.toNat) [u8 uq]=bx (q2c R (M K) (i+1)):=by rw[hjk,hX];exact hset
           refine y6 (fun st=>∃ X,X=bx (q2c R (M K) (i+1))∧st=⟨⟨173,[(5,i64 2),(6,.msl 0 1 0 2),(9,i64 C),(12,i64 K),(13,.p (u8 q)),(15,i64 ji)]⟩,[.cells z0 [.msl 1 1 0 3,.msl 2 1 0 3],.row z1 1 (q9s M K X 0),.row z1 1 (q9s M K X 1)]⟩) (z3 (q8 hT ?_)) ?_
           ·refine⟨by omega,?_⟩
            refine⟨⟨by omega,by omega⟩,?_⟩
            refine w9 hbx ?_
            refine x7 (w7 w1 _ rfl rfl) ?_
            refine v7 [15] [] hT y5 (by rfl) ?_
            refine⟨by omega,?_⟩
            refine⟨by omega,?_⟩
            refine⟨⟨by omega,by omega⟩,?_⟩
            refine w9 hux ?_
            refine⟨_,w7 w2 _ rfl rfl,?_⟩
            refine⟨⟨by omega,by omega⟩,?_⟩
            refine w9 hux ?_
            repeat first|refine⟨rfl,?_⟩|refine⟨⟨by omega,rfl⟩,?_⟩|refine⟨⟨_,w7 w2 _ rfl rfl,rfl⟩,?_⟩|refine⟨⟨⟨by omega,by omega⟩,rfl⟩,?_⟩|refine⟨w9 hux rfl,?_⟩
            exact⟨_,q7 [0,1,2] [5,6,9,12,13,15] rfl,_,hset2,rfl⟩
           ·rintro _ ⟨X,hX,rfl⟩
            refine q9 hT ?_
            exact⟨n3 - 1,by omega,_,q7 [0,1,2] [5,6,9,12,13,15] rfl,i+1,IntKind.i64.wrap (ji+1),X,by omega,by rw[y8 _ (by omega) (by omega)];omega,hX,rfl⟩
          ·have h:=k0z (show decide (ji≤((2:Nat):Int))=false from h)
           rw[show i=(M K).length by omega,q7n hRl]at hX
           rw[hX]
           refine x6 ?_
           exact⟨_,q7 [0,1,2] [5,6,9,12] rfl,U5 M K R,hEl,rfl⟩
      ·rintro _ ⟨M',hM',rfl⟩
       refine q9 hT ?_
       exact⟨n2 - 1,by omega,_,q7 [0,1,2] [5,6,9,12] rfl,k+1,IntKind.i64.wrap ((k:Int)+1),M',by omega,by rw[y8 _ (by omega) (by omega)];rfl,hM',rfl⟩
     ·have h:=k0z (show decide (j<((2:Nat):Int))=false from h)
      rw[show k=2 by omega]at hE
      refine x6 ?_
      exact⟨_,q7 [0,1,2] [5,6,9] rfl,M,sNext hE,rfl⟩
   ·rintro _ ⟨M,hM,rfl⟩
    refine q9 hT ?_
    exact⟨n - 1,by omega,_,q7 [0,1,2] [5,6,9] rfl,c+1,IntKind.i64.wrap ((c:Int)+1),M,by omega,by rw[y8 _ (by omega) (by omega)];rfl,hM,rfl⟩
  ·have h:=k0z (show decide (jc<((2:Nat):Int))=false from h)
   rw[show c=2 by omega]at hM
   refine x6 ?_
   exact⟨_,q7 [0,1,2] [5,6] rfl,M,hM,rfl⟩
 rintro _ ⟨M,hM,rfl⟩
 have hlen:=sLen hM
 have he:=hend M hM
 clear h0 hend sLen sSwap sPiv sFirst sSkip sEl sELen sEPiv sNext hM
 refine z7 ⟨⟨173,[(5,i64 2),(6,.msl 0 1 0 2),(17,.msl 3 1 0 0)]⟩,[.cells z0 [.msl 1 1 0 3,.msl 2 1 0 3],.row z1 1 (bx (M 0)),.row z1 1 (bx (M 1)),.row z1 1 (bx [])]⟩ True (q9 hT ?_) (fun _=>?_)
 ·exact⟨Wk.trans (Q2 z1 1) (Wk.trans (V6 17 3 1 0 rfl) (q7 [0,1,2,3] [5,6,17] rfl)),trivial⟩
 refine y6 (fun st=>∃ X,X=Z∧st=⟨⟨173,[(17,.msl 0 1 0 (bx X).length)]⟩,[.row z1 1 (bx X)]⟩) (q8 hT ?_) ?_
 ·refine z3 ?_
  refine y7 (fun n s=>∃ (i:Nat) (ji:Int) (X:z6),n+i=2∧ji=i∧X=Z.take i∧s=⟨⟨173,[(5,i64 2),(6,.msl 0 1 0 2),(17,.msl 3 1 0 (bx X).length),(18,i64 ji)]⟩,[.cells z0 [.msl 1 1 0 3,.msl 2 1 0 3],.row z1 1 (bx (M 0)),.row z1 1 (bx (M 1)),.row z1 1 (bx X)]⟩) 2 ⟨⟨173,_⟩,_⟩ (q7 [0,1,2,3] [5,6,17,18] rfl) ⟨0,0,[],rfl,rfl,rfl,rfl⟩ ?_
  rintro n s ⟨i,ji,X,hni,hji,hX,rfl⟩
  refine z8 (q8 hT ?_)
  refine z4 (y4 (fun h=>?_) (fun h=>?_))
  ·have h:=k0q (show decide (ji<((2:Nat):Int))=true from h)
   refine z5 ?_
   have hi4:i=0∨i=1:=by omega
   subst hji
   have hXl:(bx X).length≤2:=by rw[w6,hX,k2u];omega
   refine y6 (fun st=>∃ X',X'=Z.take (i+1)∧st=⟨⟨173,[(5,i64 2),(6,.msl 0 1 0 2),(17,.msl 3 1 0 (bx X').length),(18,i64 i)]⟩,[.cells z0 [.msl 1 1 0 3,.msl 2 1 0 3],.row z1 1 (bx (M 0)),.row z1 1 (bx (M 1)),.row z1 1 (bx X')]⟩) (z3 (z8 ?_)) ?_
   ·let I:=i
    have hI:I<2:=by show i<2;omega
    have hX:X=Z.take I:=hX
    rcases hi4 with rfl|rfl
    all_goals
     obtain⟨hne,hq⟩:=he I hI
     have hzi:=hzg I hI
     rw[← hq]at hzi
     have hg1:=Q3 (l:=M I) (c:=2) (by rw[hlen I hI];decide)
     have hg2:=Q3 (l:=M I) (c:=I) (by rw[hlen I hI];omega)
     clear hq
     generalize (M I).getD 2 0=x at hg1 hzi
     generalize (M I).getD I 0=v at hg2 hzi hne
     have w:=wD x v hne
     generalize Gf.mul x (Gf.inv v)=q at hzi w
     have hx1:(bx (M I))[0+((2:Nat):Int).toNat]?=some [u8 x]:=u7 hg1
     have hx2:(bx (M I))[0+((I:Nat):Int).toNat]?=some [u8 v]:=u7 hg2
     refine v7 [] [] hT y5 (by rfl) ?_
     refine⟨by omega,?_⟩
     refine⟨⟨by decide,by decide⟩,?_⟩
     refine w9 hx1 ?_
     refine⟨by omega,?_⟩
     refine⟨⟨by omega,by omega⟩,?_⟩
     refine w9 hx2 ?_
     refine⟨_,w7 w _ rfl rfl,?_⟩
     refine q9 hT ?_
     refine⟨rfl,⟨by show ((bx X).length+1)*1≤_;omega,by show (bx X).length+1≤_;omega⟩,?_⟩
     refine⟨_,q7 [0,1,2,5] [5,6,17,18] rfl,X++[q],?_,?_⟩
     ·show X++[q]=Z.take (I+1)
      rw[k2t,hzi,hX];rfl
     ·rw[Y9];rfl
   ·rintro _ ⟨X,hX,rfl⟩
    refine q9 hT ?_
    exact⟨n - 1,by omega,_,q7 [0,1,2,3] [5,6,17,18] rfl,i+1,IntKind.i64.wrap ((i:Int)+1),X,by omega,by rw[y8 _ (by omega) (by omega)];rfl,hX,rfl⟩
  ·have h:=k0z (show decide (ji<((2:Nat):Int))=false from h)
   rw[k2z (by omega)]at hX
   refine x6 ?_
   exact⟨_,q7 [3] [17] rfl,X,hX,rfl⟩
 rintro _ ⟨X,rfl,rfl⟩
 refine u6 (Z6 17 0 _ rfl rfl rfl rfl) ?_
 refine q8 hT ?_
 refine y9 ?_
 exact z9 [] ⟨_,rfl,rfl,rfl⟩ rfl
def pkI (k n i:Nat):Nat:=match Nat.beq i k with|true=>n|false=>1+i
def X3 (A:List z6)(l:List Nat):List z6:=l.map fun i=>A.getD i []
theorem q3v {A:List z6}{l:List Nat}{i:Nat}{s:z6}(h:A.getD i []=s):X3 A (l++[i])=X3 A l++[s]:=by unfold X3;rw[List.map_append,List.map_cons,List.map_nil,h]
theorem q9t {l:List z6}{i:Nat}(h:i<l.length):l[i]?=some (l.getD i []):=by rw[k0w,k0x h];rfl
theorem w3j {l:List z6}(h:l.length=1):l=[l.getD 0 []]:=by
 match l,h with
 |[a],_=>rfl
theorem w3k {l:List z6}(h:l.length=2):l=[l.getD 0 [],l.getD 1 []]:=by
 match l,h with
 |[a,b],_=>rfl
theorem w3m {l:List z6}(h:l.length=3):l=[l.getD 0 [],l.getD 1 [],l.getD 2 []]:=by
 match l,h with
 |[a,b,c],_=>rfl
theorem w3n {l:List z6}(h:l.length=4):l=[l.getD 0 [],l.getD 1 [],l.getD 2 [],l.getD 3 []]:=by
 match l,h with
 |[a,b,c,d],_=>rfl
theorem w9p {S:List z6}{k m c:Nat}(hl:S.length=k+m)(hS:∀ s∈S,s.length=0∨s.length=c):∀ s∈ofB S k m,s.length=c:=fun s hs=>by
 unfold ofB at hs
 rw[List.mem_map]at hs
 obtain⟨i,hi,rfl⟩:=hs
 obtain⟨hi2,hi3⟩:=q2n S k (k+m) i hi
 have hm2:S.getD i []∈S:=by
  rw[k0w,k0x (show i<S.length by omega)]
  exact k1x _
 have:=hS _ hm2
 omega
theorem z8s {r:Nat}(S:List z6)(m c:Nat)(_m1:1≤m)(_m3:m≤3)(hl:S.length=r+m)(hS:∀ s∈S,s.length=0∨s.length=c)(hg:(Q6 S r (r+m)).length=r) :
 (ofB S r m).length=r∧(∀ s∈ofB S r m,s.length=c)∧(W9 S r m c).length=r∧(∀ s∈W9 S r m c,s.length=c) ∧
  ∀ i,i<r→∀ p,p<c→((W9 S r m c).getD i [])[p]?=(q4r r (byB S r m) ((ofB S r m).map fun s=>s.getD p 0))[i]?:=by
 have hbl:=q6s (S:=S) (m:=m) hg
 have hol:(ofB S r m).length=r:=by unfold ofB;rw[k1y,hg]
 have hor:=w9p hl hS
 have hil:(z5t (byB S r m)).length=r:=(z2i _).trans hbl
 have hdl:(W9 S r m c).length=r:=by unfold W9;rw[k1y,hil]
 have hdr:∀ s∈W9 S r m c,s.length=c:=fun s hs=>by
  unfold W9 at hs
  rw[List.mem_map]at hs
  obtain⟨a,_,rfl⟩:=hs
  exact Q8 a hor (by omega)
 refine⟨hol,hor,hdl,hdr,fun i hi p hp=>?_⟩
 have hrow:(z5t (byB S r m))[i]'(by omega)=(gs r (byB S r m) r).2 i:=by
  simp only[q7s hbl,List.getElem_map,List.getElem_range]
 have hd:(W9 S r m c).getD i []=x9 ((gs r (byB S r m) r).2 i) (ofB S r m) c r:=by
  unfold W9
  rw[k0w,k1q,k0x (by omega),hrow];rfl
 rw[hd,z2t _ _ hi,Q3 (by rw[Q8 _ hor (by omega)];exact hp),z2n hor hp r (by omega)]
 congr 1
 refine x1z fun j hj=>?_
 rw[k0w (l:=List.map _ _),k1q,q9t (by omega)];rfl
theorem u1b {r:Nat}(S:List z6)(m c:Nat)(hl:S.length=r+m)(hS:∀ s∈S,s.length=0∨s.length=c):(J9 S r m c).1.length≤r+m∧∀ s∈(J9 S r m c).1,s.length=c:=by
 unfold J9
 cases h:decide ((Q6 S r (r+m)).length<r) with
 |true=>exact⟨Nat.zero_le _,fun s hs=>by cases hs⟩
 |false=>
  have h:=k0z h
  have hg:(Q6 S r (r+m)).length=r:=by have:=q1u S r (r+m);omega
  have hbl:=q6s (S:=S) (m:=m) hg
  have hol:(ofB S r m).length=r:=by unfold ofB;rw[k1y,hg]
  have hor:=w9p hl hS
  have hdl:(W9 S r m c).length=r:=by unfold W9;rw[k1y,z2i,hbl]
  have hdr:∀ s∈W9 S r m c,s.length=c:=fun s hs=>by
   unfold W9 at hs
   rw[List.mem_map]at hs
   obtain⟨a,_,rfl⟩:=hs
   exact Q8 a hor (by omega)
  refine⟨by show (W9 S r m c++q1g (W9 S r m c) m c).length≤_;rw[k1z,hdl,q3b];exact k1w _,fun s hs=>?_⟩
  rcases List.mem_append.mp hs with hs|hs
  ·exact hdr s hs
  ·unfold q1g at hs
   rw[List.mem_map]at hs
   obtain⟨a,_,rfl⟩:=hs
   exact Q8 a hdr (k1w _)
end Go.Proofs.YtinfbclgkghgaaaGreat.AL
