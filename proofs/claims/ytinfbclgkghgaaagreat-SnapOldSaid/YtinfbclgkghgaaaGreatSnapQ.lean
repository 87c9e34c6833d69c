/- A part of the proof. -/
import Derived.Laws.StructEq
import Derived.ChangeKeysEq
import Derived.ProofKit
import Derived.OpenShut
import Derived.ChangeOld
import Derived.Below
import Derived.SizedLaws
import Derived.Deep.Slices
import Derived.Lib.SmallJoins
import Derived.Laws.IdiomArrays
import Derived.Test.YtinfbclgkghgaaaGreatRows
import Derived.JoinedOf
import Derived.Test.YtinfbclgkghgaaaGreatSnapP
/- The layer 12 (snap),plain: what is written is read,as long as of each stripe as many shares are left as it has data. -/
namespace Go.Proofs.YtinfbclgkghgaaaGreat.AL
open Go Go.Proofs Go.Proofs.YtinfbclgkghgaaaGreat.AL.Crc
theorem z8c {N:Nat}:∀ (ps:List Put9) {D:Dev} {b:Nat} (m:Int),(∀ p∈ps,v6m N p)→CleanP D N b →
 ∃ E m',q4m y7v ps D m=(0,(E,m'))∧CleanP E N (b+ps.length)∧E.cells=q2c ps D.cells
 |[],D,b,m,_,h=>⟨D,m,rfl,h,rfl⟩
 |p :: r,D,b,m,hp,h=>by
  obtain⟨h0,h1,h2⟩:=hp p (by simp)
  have hk:((p.at_.toNat:Nat):Int)=p.at_:=by omega
  obtain⟨E,g1,g2,g3⟩:=w4r h (k:=p.at_.toNat) (by omega) h2
  rw[hk]at g1
  have eg:y7v D m p.at_ p.s=(0,(E,x5q 0 m)):=by unfold y7v;rw[g1]
  obtain⟨F,m',k1,k2,k3⟩:=z8c r (x5q 0 m) (fun q hq=>hp q (by simp[hq])) g2
  refine⟨F,m',?_,by rw[List.length_cons,show b+(r.length+1)=b+1+r.length by omega];exact k2,by rw[k3,g3];rfl⟩
  rw[q7h,eg];exact k1
theorem w4x {N:Nat}(ps:List Put9){D:Dev}{b:Nat}(hp:∀ p∈ps,v6m N p)(h:CleanP D N b):∃ E,D.all9 ps=(0,E)∧CleanP E N (b+ps.length)∧E.cells=q2c ps D.cells:=by
 obtain⟨E,m',h1,h2,h3⟩:=z8c ps 0 hp h
 exact⟨E,by unfold Dev.all9;rw[h1],h2,h3⟩
theorem x2f {ps:List Put9}{base:Nat}(hb:∀ (t:Nat) (x:Put9),ps[t]?=some x→x.at_=((base+t:Nat):Int)){cs:List Cell}(hl:base+ps.length≤cs.length):∀ j,j≤ps.length →
 (∀ (t:Nat) (x:Put9),ps[t]?=some x→(q2c (ps.take j) cs)[base+t]?=if t<j then some (q4i x.s) else cs[base+t]?)∧∀ a,(a<base∨base+ps.length≤a)→(q2c (ps.take j) cs)[a]?=cs[a]?
 |0,_=>⟨fun t x _=>by rw[if_neg (by omega)];rfl,fun a _=>rfl⟩
 |j+1,hj=>by
  obtain⟨h1,h2⟩:=x2f hb hl j (by omega)
  have hx:=List.getElem?_eq_getElem (show j<ps.length by omega)
  generalize ps[j]=y at hx
  have hy:=hb j y hx
  have e:q2c (ps.take (j+1)) cs=(q2c (ps.take j) cs).set (base+j) (q4i y.s):=by
   rw[List.take_add_one,hx,x2b]
   show (q2c (ps.take j) cs).set y.at_.toNat (q4i y.s)=_
   rw[hy,Int.toNat_natCast]
  have hlen:=z3r (ps.take j) cs
  rw[e]
  refine⟨fun t x ht=>?_,fun a ha=>?_⟩
  ·rw[List.getElem?_set]
   by_cases et:j=t
   ·subst et
    rw[hx]at ht
    obtain rfl:=Option.some.inj ht
    rw[if_pos rfl,if_pos (by omega),if_pos (by omega)]
   ·rw[if_neg (by omega),h1 t x ht]
    by_cases e2:t<j
    ·rw[if_pos e2,if_pos (by omega)]
    ·rw[if_neg e2,if_neg (by omega)]
  ·rw[List.getElem?_set,if_neg (by omega)]
   exact h2 a ha
/-- A snapshot that may be. -/
structure SnapG (vol:Int) (g:GeoV) (area epoch no:Int) (k m S:Nat):Prop where
 may:g.may=true
 hk:g.k=k
 hm:g.m=m
 hs:g.s=S
 a0:0≤area
 a1:area≤1
 word:V6 [vol,epoch,no]=true
def GeoV.base (g:GeoV)(area:Int):Nat:=(4+2*g.w+area*(g.s*(g.k+g.m))).toNat
variable {vol:Int} {g:GeoV} {area epoch no:Int} {k m S:Nat}
theorem SnapG.first (h:SnapG vol g area epoch no k m S){s:Nat}(hs:s<S):X9 g area s:=⟨h.may,h.a0,h.a1,by omega,by have:=h.hs;omega⟩
theorem SnapG.nat (h:SnapG vol g area epoch no k m S):1≤S∧S≤32∧1≤k∧k≤16∧1≤m∧m≤8:=by
 obtain⟨h1,h2,h3,h4,h5,h6,h7,h8⟩:=V0 (W9 h.may)
 have:=h.hk;have:=h.hm;have:=h.hs
 omega
theorem SnapG.base0 (h:SnapG vol g area epoch no k m S):0≤4+2*g.w+area*(g.s*(g.k+g.m))∧area*(g.s*(g.k+g.m))=area*((S*(k+m):Nat):Int):=by
 obtain⟨h1,h2,h3,h4,h5,h6,h7,h8⟩:=V0 (W9 h.may)
 have e:g.s*(g.k+g.m)=((S*(k+m):Nat):Int):=by rw[h.hk,h.hm,h.hs];simp
 rw[e]
 have:0≤area*((S*(k+m):Nat):Int):=Int.mul_nonneg h.a0 (by omega)
 exact⟨by omega,rfl⟩
theorem SnapG.at_ (h:SnapG vol g area epoch no k m S)(s:Nat):g.at_ area s=((g.base area+s*(k+m):Nat):Int):=by
 obtain⟨b0,_⟩:=h.base0
 unfold GeoV.at_ GeoV.base
 rw[Int.add_mul,Int.mul_assoc,Int.natCast_add,Int.toNat_of_nonneg b0,h.hk,h.hm,h.hs]
 simp only[Int.natCast_mul,Int.natCast_add]
 omega
theorem SnapG.fits (h:SnapG vol g area epoch no k m S):g.base area+S*(k+m)≤g.secs∧g.secs≤4096:=by
 obtain⟨b0,b1⟩:=h.base0
 obtain⟨q1,q2,_⟩:=z8a h.may
 have e:2*g.s*(g.k+g.m)=2*((S*(k+m):Nat):Int):=by rw[h.hk,h.hm,h.hs,Int.mul_assoc];simp
 rw[e]at q1
 have ha:area=0∨area=1:=by have:=h.a0;have:=h.a1;omega
 refine⟨?_,q2⟩
 unfold GeoV.base
 rw[b1]
 generalize S*(k+m)=n at *
 rcases ha with rfl|rfl
 ·rw[Int.zero_mul];omega
 ·rw[Int.one_mul];omega
theorem q8q {S n s i:Nat}(hs:s<S)(hi:i<n):s*n+i<S*n:=by
 have:=Nat.mul_le_mul_right n (show s+1≤S from hs)
 rw[Nat.succ_mul]at this
 omega
theorem w4y {P:y7}{k m S s:Nat}(hP:P.length=228*(S*k))(hs:s<S):∀ x∈W0 P k m s,x.length=228:=fun x hx=>by
 have hr:228*((s+1)*k)≤P.length:=by rw[hP];exact Nat.mul_le_mul_left 228 (Nat.mul_le_mul_right k hs)
 unfold W0 at hx
 rcases List.mem_append.mp hx with h|h
 ·exact q8d hr _ h
 ·unfold q7f at h
  rw[List.mem_map]at h
  obtain⟨a,_,rfl⟩:=h
  exact Z4 a (q8d hr) (Nat.le_refl _)
theorem z3s {P:y7}{k m S s i:Nat}(hP:P.length=228*(S*k))(hs:s<S)(hi:i<k+m):((W0 P k m s).getD i []).length=228:=by
 rw[List.getD_eq_getElem?_getD,List.getElem?_eq_getElem (by rw[q8e];exact hi)]
 exact w4y hP hs _ (List.getElem_mem _)
theorem w4z {a b c:Int}(h:V6 [a,b,c]=true):X2 a=true∧X2 b=true∧X2 c=true:=by
 unfold V6 at h
 simp only[List.all_cons,List.all_nil,Bool.and_true,Bool.and_eq_true,decide_eq_true_eq]at h
 unfold X2
 simp only[Bool.and_eq_true,decide_eq_true_eq]
 exact⟨h.1,h.2.1,h.2.2⟩
abbrev w5a (vol:Int)(g:GeoV)(area epoch no:Int)(P:y7)(k m s i:Nat):Blk:=⟨4,vol,g.at_ area s+i,epoch,no,(W0 P k m s).getD i []⟩
abbrev w5b (vol:Int)(g:GeoV)(area epoch no:Int)(P:y7)(k m s i:Nat):y7:=(v6g vol g area epoch no (W0 P k m s) s i).s
theorem SnapG.sector (h:SnapG vol g area epoch no k m S){P:y7}(hP:P.length=228*(S*k)){s i:Nat}(hs:s<S)(hi:i<k+m) :
 (w5b vol g area epoch no P k m s i).length=256∧q0k (w5b vol g area epoch no P k m s i)=true∧U6 (w5b vol g area epoch no P k m s i)=(w5a vol g area epoch no P k m s i,0):=by
 obtain⟨f1,f2⟩:=h.fits
 obtain⟨w1,w2,w3⟩:=w4z h.word
 have hlt:=q8q hs hi
 have hl:=z3s (m:=m) hP hs hi
 have hn:(w5a vol g area epoch no P k m s i).nums=true:=by
  have w4:X2 (g.at_ area s+i)=true:=by
   rw[h.at_ s]
   unfold X2
   simp only[Bool.and_eq_true,decide_eq_true_eq]
   omega
  show (decide ((4:Int)≥1)&&decide ((4:Int)≤4)&&[vol,g.at_ area s+i,epoch,no].all X2)=true
  simp only[List.all_cons,List.all_nil,w1,w2,w3,w4]
  rfl
 have e:(w5a vol g area epoch no P k m s i).sld=(q0i (w5a vol g area epoch no P k m s i).all,0):=by
  unfold Blk.sld;rw[hn,decide_eq_false (show ¬ ((W0 P k m s).getD i []).length > 228 by omega)]
 have es:w5b vol g area epoch no P k m s i=q0i (w5a vol g area epoch no P k m s i).all:=by
  show (w5a vol g area epoch no P k m s i).sld.1=_
  rw[e]
 have hall:=z3i (w5a vol g area epoch no P k m s i) (by show ((W0 P k m s).getD i []).length≤228;omega)
 rw[es]
 exact⟨by rw[q9c,hall],z0j _,y0c hn (by show ((W0 P k m s).getD i []).length≤228;omega)⟩
theorem SnapG.kept (h:SnapG vol g area epoch no k m S){P:y7}(hP:P.length=228*(S*k)){s i:Nat}(hs:s<S)(hi:i<k+m) :
 q1u vol (g.at_ area s) no i (w5b vol g area epoch no P k m s i)=(W0 P k m s).getD i []:=by
 unfold q1u
 rw[(h.sector hP hs hi).2.2]
 have hl:=z3s (m:=m) hP hs hi
 simp only[beq_self_eq_true,Bool.true_and,Bool.and_true]
 rw[show ((((W0 P k m s).getD i []).length:Int)==228)=true from by rw[hl];rfl]
theorem z3t {P:y7}:∀ S' s i,s<S'→i<k+m→(q2x vol g area epoch no P k m S')[s*(k+m)+i]?=some (v6g vol g area epoch no (W0 P k m s) s i)
 |0,s,i,hs,_=>by omega
 |S'+1,s,i,hs,hi=>by
  have hl:=q2k (vol:=vol) (g:=g) (area:=area) (epoch:=epoch) (no:=no) (P:=P) (k:=k) (m:=m) S'
  unfold q2x
  by_cases e:s<S'
  ·rw[List.getElem?_append_left (by rw[hl];exact q8q e hi)]
   exact z3t S' s i e hi
  ·have e:s=S':=by omega
   subst e
   rw[List.getElem?_append_right (by rw[hl];omega),hl,Nat.add_sub_cancel_left]
   unfold z0q
   rw[List.getElem?_map,List.getElem?_range (by rw[q8e];exact hi)];rfl
theorem x2g {n t:Nat}(_hn:0<n):t=(t / n)*n+t % n:=by
 have:=Nat.div_add_mod t n
 rw[Nat.mul_comm]at this
 omega
theorem SnapG.puts_at (h:SnapG vol g area epoch no k m S){P:y7}{t:Nat}{x:Put9}(ht:(q2x vol g area epoch no P k m S)[t]?=some x):x.at_=((g.base area+t:Nat):Int):=by
 obtain⟨_,_,k1,_,_,_⟩:=h.nat
 have hlt:t<S*(k+m):=by have:=(List.getElem?_eq_some_iff.1 ht).1;rwa [q2k]at this
 have hn:0<k+m:=by omega
 have e:=x2g (t:=t) hn
 have hs:t / (k+m)<S:=Nat.div_lt_of_lt_mul (by rw[Nat.mul_comm];exact hlt)
 have hi:t % (k+m)<k+m:=Nat.mod_lt _ hn
 have:=z3t (vol:=vol) (g:=g) (area:=area) (epoch:=epoch) (no:=no) (P:=P) S _ _ hs hi
 rw[← e,ht]at this
 rw[Option.some.inj this]
 show g.at_ area ((t / (k+m):Nat):Int)+((t % (k+m):Nat):Int)=_
 rw[h.at_]
 omega
theorem SnapG.puts_ok (h:SnapG vol g area epoch no k m S){P:y7}(hP:P.length=228*(S*k)):∀ p∈q2x vol g area epoch no P k m S,v6m g.secs p:=fun p hp=>by
 obtain⟨t,ht⟩:=List.getElem?_of_mem hp
 obtain⟨_,_,k1,_,_,_⟩:=h.nat
 have hlt:t<S*(k+m):=by have:=(List.getElem?_eq_some_iff.1 ht).1;rwa [q2k]at this
 have hn:0<k+m:=by omega
 have e:=x2g (t:=t) hn
 have hs:t / (k+m)<S:=Nat.div_lt_of_lt_mul (by rw[Nat.mul_comm];exact hlt)
 have hi:t % (k+m)<k+m:=Nat.mod_lt _ hn
 have hg:=z3t (vol:=vol) (g:=g) (area:=area) (epoch:=epoch) (no:=no) (P:=P) S _ _ hs hi
 rw[← e,ht]at hg
 have hat:=h.puts_at ht
 obtain⟨f1,f2⟩:=h.fits
 refine⟨by omega,by omega,?_⟩
 rw[Option.some.inj hg]
 exact(h.sector hP hs hi).1
theorem SnapG.cells (h:SnapG vol g area epoch no k m S){P:y7}{cs:List Cell}(hl:cs.length=g.secs){j:Nat}(hj:j≤S*(k+m)) :
 (∀ s i,s<S→i<k+m→(q2c ((q2x vol g area epoch no P k m S).take j) cs)[g.base area+(s*(k+m)+i)]?=if s*(k+m)+i<j then some (q4i (w5b vol g area epoch no P k m s i)) else cs[g.base area+(s*(k+m)+i)]?) ∧
 ∀ a,(a<g.base area∨g.base area+S*(k+m)≤a)→(q2c ((q2x vol g area epoch no P k m S).take j) cs)[a]?=cs[a]?:=by
 obtain⟨f1,f2⟩:=h.fits
 have hlen:=q2k (vol:=vol) (g:=g) (area:=area) (epoch:=epoch) (no:=no) (P:=P) (k:=k) (m:=m) S
 obtain⟨h1,h2⟩:=x2f (ps:=q2x vol g area epoch no P k m S) (base:=g.base area) (fun t x ht=>h.puts_at ht) (cs:=cs) (by rw[hlen];omega) j (by omega)
 rw[hlen]at h2
 exact⟨fun s i hs hi=>h1 _ _ (z3t S s i hs hi),h2⟩
theorem w5c {D:Dev}{N b:Nat}(h:CleanP D N b){A:Nat}:∀ n,A+n≤N→(D.reads A n).1=(List.range n).map (fun i=>q4p D (A+i))∧CleanP (D.reads A n).2 N b∧(D.reads A n).2.cells=D.cells
 |0,_=>⟨rfl,h,rfl⟩
 |n+1,hk=>by
  obtain⟨h1,h2,h3⟩:=w5c h (A:=A) n (by omega)
  obtain⟨r1,r2,r3⟩:=u8d h2 (show A+n<N by omega)
  have ec:((A+n:Nat):Int)=(A:Int)+n:=by omega
  rw[ec]at r1 r2
  refine⟨?_,?_,?_⟩
  ·show (D.reads A n).1++[((D.reads A n).2.read ((A:Int)+n)).1.1]=_
   rw[h1,r1,List.range_succ,List.map_append]
   unfold q4p
   rw[h3];rfl
  ·show CleanP ((D.reads A n).2.read ((A:Int)+n)).2 N b
   rw[r2];exact r3
  ·show ((D.reads A n).2.read ((A:Int)+n)).2.cells=_
   rw[r2];exact h3
def q9n (vol:Int)(g:GeoV)(area no:Int)(n:Nat)(E:Dev)(s:Nat):List y7:=(List.range n).map fun i=>q1u vol (g.at_ area s) no i (q4p E (g.base area+(s*n+i)))
def q9p (vol:Int)(g:GeoV)(area no:Int)(k m:Nat)(E:Dev)(s:Nat):Bool:=decide ((X5 (q9n vol g area no (k+m) E s) k (k+m)).length<k)
structure TrueP (vol:Int) (g:GeoV) (area epoch no:Int) (P:y7) (k m S:Nat) (E:Dev):Prop where
 all:∀ s i,s<S→i<k+m→q1u vol (g.at_ area s) no i (q4p E (g.base area+(s*(k+m)+i)))=[]∨q1u vol (g.at_ area s) no i (q4p E (g.base area+(s*(k+m)+i)))=(W0 P k m s).getD i []
theorem z3u {vol:Int}{g:GeoV}{area no:Int}{n:Nat}{E:Dev}{s i:Nat}(hi:i<n):(q9n vol g area no n E s).getD i []=q1u vol (g.at_ area s) no i (q4p E (g.base area+(s*n+i))):=by
 unfold q9n
 rw[List.getD_eq_getElem?_getD,List.getElem?_map,List.getElem?_range hi];rfl
theorem v6r (h:SnapG vol g area epoch no k m S){P:y7}(hP:P.length=228*(S*k)){E:Dev}{b:Nat}(hE:CleanP E g.secs b)(hT:TrueP vol g area epoch no P k m S E){s:Nat}(hs:s<S) :
 J2 (E.reads (g.at_ area s) (k+m)).1 vol g area s no=match q9p vol g area no k m E s with|true=>([],22)|false=>(W0 P k m s,0):=by
 obtain⟨n1,n2,n3,n4,n5,n6⟩:=h.nat
 obtain⟨f1,f2⟩:=h.fits
 have hlt:=q8q (n:=k+m) (i:=k+m - 1) hs (by omega)
 obtain⟨r1,_,_⟩:=w5c hE (A:=g.base area+s*(k+m)) (k+m) (by omega)
 rw[h.at_ s,r1]
 have hL:q4n vol (g.at_ area s) no ((List.range (k+m)).map fun i=>q4p E (g.base area+s*(k+m)+i))=q9n vol g area no (k+m) E s:=by
  unfold q4n q9n
  rw[List.length_map,List.length_range]
  refine List.map_congr_left fun i hi=>?_
  rw[List.getD_eq_getElem?_getD,List.getElem?_map,List.getElem?_range (List.mem_range.mp hi)]
  show q1u vol (g.at_ area s) no i (q4p E (g.base area+s*(k+m)+i))=_
  rw[Nat.add_assoc]
 have hw:V6 [vol,no]=true:=by
  obtain⟨w1,_,w3⟩:=w4z h.word
  unfold V6
  unfold X2 at w1 w3
  simp only[List.all_cons,List.all_nil,Bool.and_true,Bool.and_eq_true,decide_eq_true_eq]at *
  omega
 unfold J2
 rw[q0t (h.first hs),hw,show (((((List.range (k+m)).map fun i=>q4p E (g.base area+s*(k+m)+i)).length:Nat):Int)==g.k+g.m)=true from by rw[List.length_map,List.length_range,h.hk,h.hm];exact beq_iff_eq.mpr (by omega),hL]
 show (match (q8p (q9n vol g area no (k+m) E s) g.k.toNat g.m.toNat 228).2 != 0 with|true=>(([],22):List y7 × Int)|false=>_)=_
 rw[h.hk,h.hm,Int.toNat_natCast,Int.toNat_natCast]
 cases hf:q9p vol g area no k m E s with
 |true=>
  unfold q9p at hf
  unfold q8p
  rw[hf];rfl
 |false=>
  unfold q9p at hf
  have hr:228*((s+1)*k)≤P.length:=by rw[hP];exact Nat.mul_le_mul_left 228 (Nat.mul_le_mul_right k hs)
  have hd:=v0i (S:=q9n vol g area no (k+m) E s) (k:=k) (m:=m) (c:=228) (by omega) (by decide) (q3q P k s) (q8d hr) (fun i hi h0=>by
   rw[z3u hi]at h0 ⊢
   rcases hT.all s i hs hi with e|e
   ·rw[e]at h0;simp at h0
   ·exact e) (of_decide_eq_false hf)
  rw[hd];rfl
theorem w6u (h:SnapG vol g area epoch no k m S){P:y7}(hP:P.length=228*(S*k)){E:Dev}{b:Nat}(hE:CleanP E g.secs b)(hT:TrueP vol g area epoch no P k m S E):∀ s,s≤S →
 ∃ E',CleanP E' g.secs b∧E'.cells=E.cells∧E.snapN vol g area no s=match (List.range s).any (q9p vol g area no k m E) with|true=>([],22,E')|false=>(P.take (228*(s*k)),0,E')
 |0,_=>⟨E,hE,rfl,by show (([],0,E):y7x)=(P.take (228*(0*k)),0,E);rw[Nat.zero_mul,Nat.mul_zero,List.take_zero]⟩
 |s+1,hs=>by
  obtain⟨E',c1,c2,c3⟩:=w6u h hP hE hT s (by omega)
  have hT':TrueP vol g area epoch no P k m S E':=⟨fun s i hs hi=>by
   have:=hT.all s i hs hi
   unfold q4p at this ⊢
   rw[c2];exact this⟩
  have hfew:q9p vol g area no k m E' s=q9p vol g area no k m E s:=by
   unfold q9p q9n q4p;rw[c2]
  have hst:=v6r h hP c1 hT' (show s<S by omega)
  rw[hfew]at hst
  obtain⟨f1,f2⟩:=h.fits
  obtain⟨n1,n2,n3,n4,n5,n6⟩:=h.nat
  have hlt:=q8q (n:=k+m) (i:=k+m - 1) (show s<S by omega) (by omega)
  obtain⟨_,r2,r3⟩:=w5c c1 (A:=g.base area+s*(k+m)) (k+m) (by omega)
  rw[← h.at_ s]at r2 r3
  show ∃ E',_∧_∧q2b vol g area no s (E.snapN vol g area no s)=_
  rw[c3,List.range_succ,List.any_append,List.any_cons,List.any_nil,Bool.or_false]
  cases ha:(List.range s).any (q9p vol g area no k m E) with
  |true=>exact⟨E',c1,c2,rfl⟩
  |false=>
   refine⟨_,r2,r3.trans c2,?_⟩
   show (match (J2 (E'.reads (g.at_ area s) (g.k.toNat+g.m.toNat)).1 vol g area s no).2 != 0 with|true=>(_:y7x)|false=>_)=_
   rw[h.hk,h.hm,Int.toNat_natCast,Int.toNat_natCast,hst]
   cases q9p vol g area no k m E s with
   |true=>rfl
   |false=>
    show ((P.take (228*(s*k))++((W0 P k m s).take k).flatten,0,(E'.reads (g.at_ area s) (k+m)).2):y7x)=(P.take (228*((s+1)*k)),0,(E'.reads (g.at_ area s) (k+m)).2)
    have hfl:∀ j,j≤k→((q0g P k s).take j).flatten=(P.drop (228*(s*k))).take (228*j):=by
     intro j
     induction j with
     |zero=>intro _;rfl
     |succ j ih=>
      intro hj
      rw[List.take_add_one,y1e (show j<k by omega),List.flatten_append,ih (by omega)]
      show _++[w0y P (s*k+j)].flatten=_
      rw[List.flatten_singleton]
      unfold w0y
      rw[show 228*(j+1)=228*j+228 by omega,List.take_add,List.drop_drop,show 228*(s*k)+228*j=228*(s*k+j) by rw[Nat.mul_add]]
    have e1:(W0 P k m s).take k=q0g P k s:=by unfold W0;rw[List.take_left' (q3q P k s)]
    have e2:=hfl k (Nat.le_refl _)
    rw[List.take_of_length_le (by rw[q3q];exact Nat.le_refl _)]at e2
    rw[e1,e2,show 228*((s+1)*k)=228*(s*k)+228*k by rw[Nat.add_mul s 1 k,Nat.one_mul,Nat.mul_add],List.take_add]
theorem z0r (h:SnapG vol g area epoch no k m S){P:y7}(hP:P.length=228*(S*k)){E:Dev}{b:Nat}(hE:CleanP E g.secs b)(hT:TrueP vol g area epoch no P k m S E){long:Int}(l0:0≤long)(l1:long≤g.room) :
 ∃ E',CleanP E' g.secs b∧E'.cells=E.cells∧E.snapRead vol g area no long=match (List.range S).any (q9p vol g area no k m E) with|true=>(([],22),E')|false=>((P.take long.toNat,0),E'):=by
 obtain⟨n1,n2,n3,n4,n5,n6⟩:=h.nat
 obtain⟨E',c1,c2,c3⟩:=w6u h hP hE hT S (Nat.le_refl _)
 refine⟨E',c1,c2,?_⟩
 have hw:V6 [vol,no]=true:=by
  obtain⟨w1,_,w3⟩:=w4z h.word
  unfold V6
  unfold X2 at w1 w3
  simp only[List.all_cons,List.all_nil,Bool.and_true,Bool.and_eq_true,decide_eq_true_eq]at *
  omega
 unfold Dev.snapRead
 rw[show V1 g area 0=(g.at_ area 0,0) from q0t (h.first (s:=0) (by omega)),hw,decide_eq_false (show ¬ long<0 by omega),decide_eq_false (show ¬ long > g.room by omega),hE.dead,h.hs,Int.toNat_natCast,c3]
 show (match (match (List.range S).any (q9p vol g area no k m E) with|true=>(([],22,E'):y7x)|false=>(P.take (228*(S*k)),0,E')).2.1 != 0 with|true=>(_:(y7 × Int) × Dev)|false=>_)=_
 cases (List.range S).any (q9p vol g area no k m E) with
 |true=>rfl
 |false=>
  show (((P.take (228*(S*k))).take long.toNat,0),E')=_
  rw[show P.take (228*(S*k))=P from List.take_of_length_le (by omega)]
end Go.Proofs.YtinfbclgkghgaaaGreat.AL
namespace Go.Proofs.YtinfbclgkghgaaaGreat.AL
open Go Go.Proofs Go.Proofs.YtinfbclgkghgaaaGreat.AL.Crc
def y8a (S:List y7):Nat→Nat
 |0=>0
 |i+1=>y8a S i+(if 0<(S.getD i []).length then 1 else 0)
theorem x2h (S:List y7)(most:Nat):∀ i,(X5 S most i).length=min most (y8a S i)
 |0=>by show 0=min most 0;omega
 |i+1=>by
  have ih:=x2h S most i
  unfold y8a
  cases h:pkd S most i with
  |true=>
   rw[(q6d h).1,List.length_append,List.length_singleton]
   unfold pkd at h
   rw[Bool.and_eq_true,decide_eq_true_eq,decide_eq_true_eq]at h
   rw[if_pos h.2];omega
  |false=>
   rw[(q7g h).1]
   unfold pkd at h
   rw[Bool.and_eq_false_iff,decide_eq_false_iff_not,decide_eq_false_iff_not]at h
   rcases h with h|h
   ·split <;> omega
   ·rw[if_neg h];omega
theorem x5w {vol:Int}{g:GeoV}{area no:Int}{k m:Nat}{E:Dev}{s:Nat}:q9p vol g area no k m E s=decide (y8a (q9n vol g area no (k+m) E s) (k+m)<k):=by
 unfold q9p
 rw[x2h]
 by_cases h:y8a (q9n vol g area no (k+m) E s) (k+m)<k
 ·rw[decide_eq_true h,decide_eq_true (by omega)]
 ·rw[decide_eq_false h,decide_eq_false (by omega)]
theorem v0z {s:y7}(h:(U6 s).2≠0)(vol a no:Int)(i:Nat):q1u vol a no i s=[]:=by
 unfold q1u
 rw[show ((U6 s).2==0)=false from beq_eq_false_iff_ne.mpr h];rfl
theorem y8b {v:Int}(hv:X2 v=true){x:Nat}(hx:x≤4294967295)(vol a no:Int)(i:Nat):q1u vol a no i (U4 v x)=[]:=by
 obtain⟨e1,e2,_⟩:=y0j v hv x hx
 unfold q1u
 rw[e1,e2]
 rfl
abbrev flA (f:Flt)(a:Int):Flt:={ f with at_:=a,n:=0,to:=0 }
def q1r (f:Flt)(base:Nat)(h:List Bool)(D:Dev):Nat→Dev
 |0=>D
 |t+1=>match h.getD t false with
  |true=>((q1r f base h D t).fault (flA f ((base+t:Nat):Int))).2
  |false=>q1r f base h D t
theorem y3r {D:Dev}{N b:Nat}{f:Flt}(hD:CleanP D N b)(k1:1≤f.kind)(k3:f.kind≤3)(o0:0≤f.off)(o1:f.off<256){base:Nat}(h:List Bool):∀ t,base+t≤N →
 CleanP (q1r f base h D t) N (b+t)∧∀ a,(q1r f base h D t).cells[a]?=if base≤a∧a<base+t∧h.getD (a - base) false=true then (D.cells[a]?).map (y0m f) else D.cells[a]?
 |0,_=>⟨hD,fun a=>by rw[if_neg (by omega)];rfl⟩
 |t+1,ht=>by
  obtain⟨c,r⟩:=y3r hD k1 k3 o0 o1 (base:=base) h t (by omega)
  unfold q1r
  cases hh:h.getD t false with
  |false=>
   refine⟨c.mono (by omega),fun a=>?_⟩
   show (q1r f base h D t).cells[a]?=_
   rw[r a]
   by_cases e:a=base+t
   ·subst e
    rw[Nat.add_sub_cancel_left,hh,if_neg (by omega),if_neg (by simp)]
   ·by_cases e2:base≤a∧a<base+t∧h.getD (a - base) false=true
    ·rw[if_pos e2,if_pos ⟨e2.1,by omega,e2.2.2⟩]
    ·rw[if_neg e2,if_neg (fun e3=>e2 ⟨e3.1,by omega,e3.2.2⟩)]
  |true=>
   obtain⟨E,e1,e2,e3⟩:=v6p (f:=flA f ((base+t:Nat):Int)) c (by show (0:Int)≤((base+t:Nat):Int);omega) (by show ((base+t:Nat):Int)<_;omega) k1 k3 o0 o1
   show CleanP ((q1r f base h D t).fault (flA f ((base+t:Nat):Int))).2 N (b+(t+1))∧_
   rw[e1]
   refine⟨e2,fun a=>?_⟩
   show E.cells[a]?=_
   have hat:(flA f ((base+t:Nat):Int)).at_.toNat=base+t:=Int.toNat_natCast _
   rw[e3,List.getElem?_modify,hat,r a]
   by_cases e:base+t=a
   ·subst e
    rw[Nat.add_sub_cancel_left,hh,if_neg (by omega),if_pos ⟨by omega,by omega,rfl⟩]
    cases D.cells[base+t]? with
    |none=>rfl
    |some c=>show some (if base+t=base+t then _ else _)=_;rw[if_pos rfl];rfl
   ·by_cases e2:base≤a∧a<base+t∧h.getD (a - base) false=true
    ·rw[if_pos e2,if_pos ⟨e2.1,by omega,e2.2.2⟩]
     cases D.cells[a]? with
     |none=>rfl
     |some c=>show some (if base+t=a then _ else _)=_;rw[if_neg e];rfl
    ·rw[if_neg e2,if_neg (fun e3=>e2 ⟨e3.1,by omega,e3.2.2⟩)]
     cases D.cells[a]? with
     |none=>rfl
     |some c=>show some (if base+t=a then _ else _)=_;rw[if_neg e]
def q1s (h:List Bool)(s n:Nat):Nat→Nat
 |0=>0
 |i+1=>q1s h s n i+(match h.getD (s*n+i) false with|true=>1|false=>0)
theorem z8d (h:List Bool)(s n:Nat):∀ i,q1s h s n i≤i
 |0=>Nat.le_refl _
 |i+1=>by
  have:=z8d h s n i
  unfold q1s
  split <;> omega
variable {vol:Int} {g:GeoV} {area epoch no:Int} {k m S:Nat}
theorem SnapG.room (h:SnapG vol g area epoch no k m S):g.room=((228*(S*k):Nat):Int):=by
 unfold GeoV.room
 rw[h.may,h.hs,h.hk]
 show (S:Int)*k*228=_
 rw[Int.mul_comm];simp
structure WroteP (vol:Int) (g:GeoV) (area epoch no:Int) (P:y7) (k m S:Nat) (E:Dev):Prop where
 there:∀ s i,s<S→i<k+m→E.cells[g.base area+(s*(k+m)+i)]?=some (q4i (w5b vol g area epoch no P k m s i))
theorem SnapG.putsB (h:SnapG vol g area epoch no k m S){b:y7}(hb:b.length≤228*(S*k)):putsB vol g area epoch no b=(q2x vol g area epoch no (q5t (228*(S*k)) b) k m S,0):=by
 obtain⟨n1,_⟩:=h.nat
 unfold Go.Proofs.YtinfbclgkghgaaaGreat.AL.putsB
 rw[show V1 g area 0=(g.at_ area 0,0) from q0t (h.first (s:=0) (by omega)),h.word,h.room,decide_eq_false (show ¬ (b.length:Int) > ((228*(S*k):Nat):Int) by omega),Int.toNat_natCast,h.hk,h.hm,h.hs,Int.toNat_natCast,Int.toNat_natCast,Int.toNat_natCast]
 rfl
theorem q8f (h:SnapG vol g area epoch no k m S){b:y7}(hb:b.length≤228*(S*k)){D:Dev}{n:Nat}(hD:CleanP D g.secs n) :
 ∃ E,D.snapWrite vol g area epoch no b=(0,E)∧CleanP E g.secs (n+S*(k+m))∧WroteP vol g area epoch no (q5t (228*(S*k)) b) k m S E∧∀ a,(a<g.base area∨g.base area+S*(k+m)≤a)→E.cells[a]?=D.cells[a]?:=by
 have hP:=q7i hb
 obtain⟨E,e1,e2,e3⟩:=w4x _ (h.puts_ok hP) hD
 have hlen:=q2k (vol:=vol) (g:=g) (area:=area) (epoch:=epoch) (no:=no) (P:=q5t (228*(S*k)) b) (k:=k) (m:=m) S
 obtain⟨c1,c2⟩:=h.cells (P:=q5t (228*(S*k)) b) hD.len (Nat.le_refl (S*(k+m)))
 rw[List.take_of_length_le (by omega),← e3]at c1 c2
 refine⟨E,?_,by rw[hlen]at e2;exact e2,⟨fun s i hs hi=>?_⟩,c2⟩
 ·unfold Dev.snapWrite
  rw[h.putsB hb];exact e1
 ·rw[c1 s i hs hi,if_pos (q8q hs hi)]
theorem WroteP.keep {P:y7}{E F:Dev}(h:WroteP vol g area epoch no P k m S E)(he:∀ s i,s<S→i<k+m→F.cells[g.base area+(s*(k+m)+i)]?=E.cells[g.base area+(s*(k+m)+i)]?):WroteP vol g area epoch no P k m S F:=⟨fun s i hs hi=>by rw[he s i hs hi];exact h.there s i hs hi⟩
theorem y0n (h:SnapG vol g area epoch no k m S){P:y7}(hP:P.length=228*(S*k)){E:Dev}{b:Nat}(hE:CleanP E g.secs b)(hW:WroteP vol g area epoch no P k m S E){f:Flt}(k1:1≤f.kind)(k3:f.kind≤3)(o0:0≤f.off)(o1:f.off≤252)(hm:f.kind=1→chd f.m 4=true)(hh:List Bool){s i:Nat}(hs:s<S)(hi:i<k+m) :
 q1u vol (g.at_ area s) no i (q4p (q1r f (g.base area) hh E (S*(k+m))) (g.base area+(s*(k+m)+i)))=match hh.getD (s*(k+m)+i) false with|true=>[]|false=>(W0 P k m s).getD i []:=by
 obtain⟨f1,f2⟩:=h.fits
 obtain⟨_,r⟩:=y3r hE k1 k3 o0 (by omega) (base:=g.base area) hh (S*(k+m)) f1
 have hlt:=q8q hs hi
 obtain⟨q1,q2,q3⟩:=h.sector hP hs hi
 have hc:=r (g.base area+(s*(k+m)+i))
 rw[hW.there s i hs hi,Nat.add_sub_cancel_left]at hc
 cases hx:hh.getD (s*(k+m)+i) false with
 |true=>
  rw[hx,if_pos ⟨by omega,by omega,rfl⟩]at hc
  rw[q5u _ _ hc]
  exact v0z (v8v q2 q1 k1 k3 o0 o1 hm) _ _ _ _
 |false=>
  rw[hx,if_neg (by simp)]at hc
  rw[q5u _ _ hc]
  exact h.kept hP hs hi
theorem y8c (h:SnapG vol g area epoch no k m S){P:y7}(hP:P.length=228*(S*k)){E:Dev}{b:Nat}(hE:CleanP E g.secs b)(hW:WroteP vol g area epoch no P k m S E){f:Flt}(k1:1≤f.kind)(k3:f.kind≤3)(o0:0≤f.off)(o1:f.off≤252)(hm:f.kind=1→chd f.m 4=true)(hh:List Bool){s:Nat}(hs:s<S) :
 q9p vol g area no k m (q1r f (g.base area) hh E (S*(k+m))) s=decide (m<q1s hh s (k+m) (k+m)):=by
 have hc:∀ i,i≤k+m→y8a (q9n vol g area no (k+m) (q1r f (g.base area) hh E (S*(k+m))) s) i=i - q1s hh s (k+m) i:=by
  intro i
  induction i with
  |zero=>intro _;rfl
  |succ i ih=>
   intro hi
   have hle:=z8d hh s (k+m) i
   unfold y8a q1s
   rw[ih (by omega),z3u (by omega),y0n h hP hE hW k1 k3 o0 o1 hm hh hs (show i<k+m by omega)]
   cases hh.getD (s*(k+m)+i) false with
   |true=>rw[if_neg (by simp)];show _=i+1 - (q1s hh s (k+m) i+1);omega
   |false=>
    rw[if_pos (show 0<((W0 P k m s).getD i []).length by rw[z3s hP hs (by omega)];decide)]
    show _=i+1 - (q1s hh s (k+m) i+0)
    omega
 have hle:=z8d hh s (k+m) (k+m)
 rw[x5w,hc _ (Nat.le_refl _)]
 by_cases e:m<q1s hh s (k+m) (k+m)
 ·rw[decide_eq_true e,decide_eq_true (by omega)]
 ·rw[decide_eq_false e,decide_eq_false (by omega)]
theorem y0p {n:Nat}{b:y7}:(q5t n b).take b.length=b:=by unfold q5t;rw[List.take_left' rfl]
theorem x2i (h:SnapG vol g area epoch no k m S){b:y7}(hb:b.length≤228*(S*k)){E:Dev}{n:Nat}(hE:CleanP E g.secs n)(hW:WroteP vol g area epoch no (q5t (228*(S*k)) b) k m S E){f:Flt}(k1:1≤f.kind)(k3:f.kind≤3)(o0:0≤f.off)(o1:f.off≤252)(hm:f.kind=1→chd f.m 4=true)(hh:List Bool) :
 ∃ E',CleanP E' g.secs (n+S*(k+m))∧E'.cells=(q1r f (g.base area) hh E (S*(k+m))).cells∧(q1r f (g.base area) hh E (S*(k+m))).snapRead vol g area no b.length=match (List.range S).any (fun s=>decide (m<q1s hh s (k+m) (k+m))) with|true=>(([],22),E')|false=>((b,0),E'):=by
 have hP:=q7i hb
 obtain⟨f1,f2⟩:=h.fits
 obtain⟨c,_⟩:=y3r hE k1 k3 o0 (by omega) (base:=g.base area) hh (S*(k+m)) f1
 have hT:TrueP vol g area epoch no (q5t (228*(S*k)) b) k m S (q1r f (g.base area) hh E (S*(k+m))):=⟨fun s i hs hi=>by
  rw[y0n h hP hE hW k1 k3 o0 o1 hm hh hs hi]
  cases hh.getD (s*(k+m)+i) false with
  |true=>exact .inl rfl
  |false=>exact .inr rfl⟩
 obtain⟨E',r1,r2,r3⟩:=z0r h hP c hT (long:=(b.length:Int)) (by omega) (by rw[h.room];omega)
 refine⟨E',r1,r2,?_⟩
 have hany:(List.range S).any (q9p vol g area no k m (q1r f (g.base area) hh E (S*(k+m))))=(List.range S).any (fun s=>decide (m<q1s hh s (k+m) (k+m))):=by
  rw[Bool.eq_iff_iff,List.any_eq_true,List.any_eq_true]
  constructor
  ·rintro⟨s,hs,e⟩
   rw[y8c h hP hE hW k1 k3 o0 o1 hm hh (List.mem_range.mp hs)]at e
   exact⟨s,hs,e⟩
  ·rintro⟨s,hs,e⟩
   exact⟨s,hs,by rw[y8c h hP hE hW k1 k3 o0 o1 hm hh (List.mem_range.mp hs)];exact e⟩
 rw[r3,hany,Int.toNat_natCast,y0p] <;> (cases (List.range S).any (fun s=>decide (m<q1s hh s (k+m) (k+m))) <;> rfl)
theorem v1a (h:SnapG vol g area epoch no k m S){E:Dev}{n:Nat}(hE:CleanP E g.secs n){v:Int}(hv:X2 v=true)(hF:∀ a,g.base area≤a→a<g.base area+S*(k+m)→E.cells[a]?=some (q4i (U4 v a))){long:Int}(l0:0≤long)(l1:long≤g.room) :
 ∃ E',CleanP E' g.secs n∧E'.cells=E.cells∧E.snapRead vol g area no long=(([],22),E'):=by
 obtain⟨n1,n2,n3,n4,n5,n6⟩:=h.nat
 obtain⟨f1,f2⟩:=h.fits
 have hk:∀ s i,s<S→i<k+m→q1u vol (g.at_ area s) no i (q4p E (g.base area+(s*(k+m)+i)))=[]:=fun s i hs hi=>by
  have hlt:=q8q hs hi
  rw[q5u _ _ (hF _ (by omega) (by omega))]
  exact y8b hv (by omega) _ _ _ _
 have hP:(List.replicate (228*(S*k)) (0:UInt8)).length=228*(S*k):=List.length_replicate
 obtain⟨E',r1,r2,r3⟩:=z0r h hP hE ⟨fun s i hs hi=>.inl (hk s i hs hi)⟩ l0 l1
 refine⟨E',r1,r2,?_⟩
 have hc:∀ i,i≤k+m→y8a (q9n vol g area no (k+m) E 0) i=0:=by
  intro i
  induction i with
  |zero=>intro _;rfl
  |succ i ih=>
   intro hi
   unfold y8a
   rw[ih (by omega),z3u (by omega),hk 0 i (by omega) (by omega)]
   rfl
 have hany:(List.range S).any (q9p vol g area no k m E)=true:=List.any_eq_true.mpr ⟨0,List.mem_range.mpr (by omega),by rw[x5w,hc _ (Nat.le_refl _)];exact decide_eq_true (by omega)⟩
 rw[r3,hany]
end Go.Proofs.YtinfbclgkghgaaaGreat.AL
namespace Go.Proofs.YtinfbclgkghgaaaGreat.AL
open Go Go.Proofs Go.Proofs.YtinfbclgkghgaaaGreat.AL.Crc
def z0s (g:GeoV):Bool:=decide (g.w≤16)&&decide (g.s≤3)&&decide (g.k≤4)&&decide (g.m≤3)
set_option maxRecDepth 20000 in
theorem q8g (g:GeoV):AF Tryz.prog y8n [g.av] [] (Q0 (bl (z0s g)) []):=by
 refine u9 hT y8p rfl rfl y8q rfl ?_
 refine q8 (q7 hT ?_)
 refine Q8 (Q6 0 g.pv rfl rfl) ?_
 unfold z0s
 refine q8 (q7 hT ?_)
 refine x7 (fun h=>?_) (fun h=>?_)
 ·rw[show decide (g.w≤16)=true from h]
  refine x7 (fun h=>?_) (fun h=>?_)
  ·rw[show decide (g.s≤3)=true from h]
   refine x7 (fun h=>?_) (fun h=>?_)
   ·rw[show decide (g.k≤4)=true from h]
    refine x6 ?_
    exact y9 [] ⟨rfl,rfl⟩ rfl
   ·rw[show decide (g.k≤4)=false from h]
    refine x6 ?_
    exact y9 [] ⟨rfl,rfl⟩ rfl
  ·rw[show decide (g.s≤3)=false from h]
   refine x6 ?_
   exact y9 [] ⟨rfl,rfl⟩ rfl
 ·rw[show decide (g.w≤16)=false from h]
  refine x6 ?_
  exact y9 [] ⟨rfl,rfl⟩ rfl
theorem y8d {g:GeoV}(h:z0s g=true):g.w≤16∧g.s≤3∧g.k≤4∧g.m≤3:=by
 unfold z0s at h
 simp only[Bool.and_eq_true,decide_eq_true_eq]at h
 omega
abbrev z2m:Flt:=⟨2,24,0,0,0,0,0,0,0⟩
def g12:GeoV:=⟨8,1,2,1⟩
def b12:y7:=(List.replicate 300 (0:UInt8)).set 299 9
theorem w1h (area:Int)(a0:0≤area)(a1:area≤1):SnapG 7 g12 area 3 4 2 1 1:=⟨by decide +kernel,rfl,rfl,rfl,a0,a1,by decide +kernel⟩
theorem z3v:b12.length=300:=by unfold b12;rw[List.length_set,List.length_replicate]
theorem y9y:∃ D0 E F G H:Dev,D0=q5b 7 g12∧D0.snapWrite 7 g12 1 3 4 b12=(0,E)∧E.fault z2m=(0,F)∧F.snapRead 7 g12 1 4 300=((b12,0),G)∧G.snapRead 7 g12 0 4 300=(([],22),H)∧D0.Ok 1000∧E.Ok 2000∧F.Ok 3000∧G.Ok 4000:=by
 have hg:=w1h 1 (by decide) (by decide)
 have hv:X2 7=true:=by decide +kernel
 obtain⟨c0,f0⟩:=x5s 7 hv g12 hg.may
 have hsec:g12.secs=26:=by decide +kernel
 obtain⟨E,e1,e2,e3,e4⟩:=q8f hg (b:=b12) (by rw[z3v];decide) c0
 have hbase:g12.base 1=23:=by decide +kernel
 have hbase0:g12.base 0=20:=by decide +kernel
 obtain⟨F,q1,q2,q3⟩:=v6p (f:=z2m) e2 (by decide) (by rw[hsec];decide) (by decide) (by decide) (by decide) (by decide)
 have hF:q1r z2m (g12.base 1) [false,true,false] E (1*(2+1))=F:=by
  rw[hbase]
  show (E.fault (flA z2m ((23+1:Nat):Int))).2=F
  have:flA z2m ((23+1:Nat):Int)=z2m:=rfl
  rw[this,q1]
 obtain⟨G,r1,r2,r3⟩:=x2i hg (b:=b12) (by rw[z3v];decide) e2 e3 (f:=z2m) (by decide) (by decide) (by decide) (by decide) (fun h=>absurd h (by decide)) [false,true,false]
 rw[hF]at r2 r3
 have hno:(List.range 1).any (fun s=>decide (1<q1s [false,true,false] s (2+1) (2+1)))=false:=by decide +kernel
 rw[hno,z3v]at r3
 have hg0:=w1h 0 (by decide) (by decide)
 obtain⟨H,s1,s2,s3⟩:=v1a hg0 r1 hv (fun a h1 h2=>by
  rw[hbase0]at h1 h2
  have hc:G.cells[a]?=E.cells[a]?:=by
   rw[r2,q3,List.getElem?_modify]
   cases E.cells[a]? with
   |none=>rfl
   |some c=>show some (if (24:Int).toNat=a then _ else _)=_;rw[if_neg (by show ¬ 24=a;omega)]
  rw[hc,e4 a (.inl (by rw[hbase];omega))]
  exact f0 a (by rw[hsec];omega)) (long:=300) (by decide) (by decide +kernel)
 exact⟨_,E,F,G,H,rfl,e1,q1,r3,s3,c0.ok.mono (by rw[hsec];decide),e2.ok.mono (by rw[hsec];decide),q2.ok.mono (by rw[hsec];decide),r1.ok.mono (by rw[hsec];decide)⟩
set_option maxHeartbeats 4000000 in
set_option maxRecDepth 20000 in
theorem q8h:AF Tryz.prog y8j [] [] (Q0 (bl true) []):=by
 obtain⟨D0,E,F,G,H,d0,d1,d2,d3,d4,o0,o1,o2,o3⟩:=y9y
 have wB:=q2d 7 g12 (by decide +kernel)
 rw[← d0]at wB
 have wW:=q4z D0 7 g12 1 3 4 b12 (by decide) (by decide) (by rw[z3v];decide) 1000 o0 (by decide)
 rw[d1]at wW
 have wf:=y6n E z2m 2000 o1 (by decide)
 rw[d2]at wf
 have wR:=q5a F 7 g12 1 4 300 (by decide) (by decide) 3000 o2 (by decide)
 rw[d3]at wR
 have wR0:=q5a G 7 g12 0 4 300 (by decide) (by decide) 4000 o3 (by decide)
 rw[d4]at wR0
 have wS:=z0g b12 b12 (by rw[z3v];decide)
 rw[beq_self_eq_true]at wS
 have hX:(List.replicate 300 [u8 0]).set 299 [u8 9]=bx b12:=by unfold b12;rw[u1a];unfold bx;rw[List.map_replicate]
 have hXl:(bx b12).length=300:=by rw[u6,z3v]
 have hz:(List.replicate 300 [u8 0])[0+299]?=some [u8 0]:=by rw[List.getElem?_replicate,if_pos (by decide)]
 have hZl:(List.replicate 300 [u8 0]).length=300:=List.length_replicate
 clear d0 d1 d2 d3 d4 o0 o1 o2 o3
 generalize b12=B at *
 obtain⟨Z,hZ⟩:∃ Z:List (List PV),Z=List.replicate 300 [u8 0]:=⟨_,rfl⟩
 rw[← hZ]at hX hz hZl
 refine u9 hT y8k rfl rfl y8m rfl ?_
 refine q8 (q7 hT ?_)
 refine y8 ⟨⟨51,[(1,.p (.box g12.pv))]⟩,[]⟩ True (q7 hT ?_) (fun _=>?_)
 ·exact⟨Wk.trans (Q6 0 g12.pv rfl rfl) (q9 [] [1] rfl),trivial⟩
 refine y8 ⟨⟨51,[(1,.p (.box g12.pv)),(2,.ref 0 0)]⟩,Z5 D0⟩ True (q7 hT ?_) (fun _=>?_)
 ·refine x8 wB ?_
  exact⟨q9 [0,1,2] [1,2] rfl,trivial⟩
 refine w6 (fun st=>∃ Y,Y=Z∧st=⟨⟨51,[(1,.p (.box g12.pv)),(2,.ref 0 0),(3,.msl 3 1 0 300)]⟩,Z5 D0++[.row z4 1 Y]⟩) (q7 hT ?_) ?_
 ·refine⟨⟨rfl,by decide,by decide,by decide⟩,?_⟩
  exact⟨_,q9 [0,1,2,3] [1,2,3] rfl,_,(by rw[hZ];rfl),rfl⟩
 rintro _ ⟨_,rfl,rfl⟩
 refine w6 (fun st=>∃ Y,Y=bx B∧st=⟨⟨51,[(1,.p (.box g12.pv)),(2,.ref 0 0),(3,.msl 3 1 0 300)]⟩,Z5 D0++[.row z4 1 Y]⟩) (q7 hT ?_) ?_
 ·refine⟨⟨by decide,by decide⟩,?_⟩
  refine u7 hz ?_
  exact⟨_,q9 [0,1,2,3] [1,2,3] rfl,_,hX,rfl⟩
 rintro _ ⟨_,rfl,rfl⟩
 refine Q8 (q0s 3 3 300 rfl hXl.symm rfl rfl) ?_
 refine y8 ⟨⟨51,[(1,.p (.box g12.pv)),(2,.ref 0 0),(3,bA B),(4,i64 0)]⟩,Z5 E⟩ True (q7 hT ?_) (fun _=>?_)
 ·refine x8 (Q1 [0,1,2] wW rfl rfl rfl) ?_
  exact⟨q9 [0,4,5] [1,2,3,4] rfl,trivial⟩
 refine y8 ⟨⟨51,[(1,.p (.box g12.pv)),(2,.ref 0 0),(3,bA B),(4,i64 0)]⟩,Z5 F⟩ True (q7 hT ?_) (fun _=>?_)
 ·refine x8 (Q1 [0,1,2] wf rfl rfl rfl) ?_
  exact⟨q9 [0,1,2] [1,2,3,4] rfl,trivial⟩
 refine y8 ⟨⟨51,[(1,.p (.box g12.pv)),(2,.ref 0 0),(3,bA B),(4,i64 0),(5,bA B),(6,i64 0)]⟩,Z5 G⟩ True (q7 hT ?_) (fun _=>?_)
 ·refine x8 (Q1 [0,1,2] wR rfl rfl rfl) ?_
  exact⟨q9 [0,1,2] [1,2,3,4,5,6] rfl,trivial⟩
 refine q8 (q7 hT ?_)
 refine x8 (u5 wS _ rfl rfl) ?_
 refine y8 ⟨⟨51,[(4,i64 0),(6,i64 0),(7,bl true),(9,i64 22)]⟩,[]⟩ True (q7 hT ?_) (fun _=>?_)
 ·refine x8 (Q1 [0,1,2] wR0 rfl rfl rfl) ?_
  exact⟨q9 [] [4,6,7,9] rfl,trivial⟩
 refine q8 (q7 hT ?_)
 refine x6 ?_
 exact y9 [] ⟨rfl,rfl⟩ rfl
end Go.Proofs.YtinfbclgkghgaaaGreat.AL
namespace Go.Proofs.YtinfbclgkghgaaaGreat.AL
open Go Go.RowKit
variable {P:Program}
def v1b (P:Program)(e:TypeId)(a b:Option Value):Bool:=
 match P.underlying e,a,b with
 |some (.int _),some (.int k _),some (.int k' _)=>k==k'
 |some .bool,some (.bool _),some (.bool _)=>true
 |some .string,some (.string _),some (.string _)=>true
 |_,_,_=>false
theorem v6s {e:TypeId}{xs ys:Array Value}{off d:Nat}(w:World)(h:v1b P e xs[off]? ys[off]?=true) :
 ∃ a b r,(part e xs off).run P w=.ok a w∧(part e ys off).run P w=.ok b w∧(Op.equalIn (d+1) e a b).run P w=.ok r w∧(r=true↔xs[off]?=ys[off]?):=by
 unfold v1b at h
 split at h
 ·rename_i q k n k' n' hu ha hb
  obtain rfl:k=k':=eq_of_beq h
  exact⟨.int k n,.int k n',n==n',by simp[part,isAgg,run_underlying hu,ha],by simp[part,isAgg,run_underlying hu,hb],run_equalIn_int w d e k q n n' hu,by rw[ha,hb];simp⟩
 ·rename_i a b hu ha hb
  exact⟨.bool a,.bool b,a==b,by simp[part,isAgg,run_underlying hu,ha],by simp[part,isAgg,run_underlying hu,hb],run_equalIn_bool w d e a b hu,by rw[ha,hb];simp⟩
 ·rename_i a b hu ha hb
  refine⟨.string a,.string b,a.toList==b.toList,by simp[part,isAgg,run_underlying hu,ha],by simp[part,isAgg,run_underlying hu,hb],run_equalIn_string w d e a b hu,?_⟩
  rw[ha,hb];simp[ByteArray.toList_eq]
  constructor
  ·intro h;exact ByteArray.ext h
  ·intro h;rw[h]
 ·exact absurd h (by simp)
end Go.Proofs.YtinfbclgkghgaaaGreat.AL
namespace Go.Proofs.YtinfbclgkghgaaaGreat.AL
open Go Go.RowKit
variable {P:Program}
theorem y8e {e:TypeId}{c:Nat}{xs ys:Array Value}(w:World)(d:Nat):∀ is:List Nat,(∀ i∈is,v1b P e xs[i*c]? ys[i*c]?=true)→∃ r,(Op.eqItems (d+1) e c xs ys is).run P w=.ok r w∧(r=true↔∀ i∈is,xs[i*c]?=ys[i*c]?)
 |[],_=>⟨true,by simp[Op.eqItems],by simp⟩
 |i :: is,h=>by
  obtain⟨a,b,r,p1,p2,p3,hiff⟩:=v6s (d:=d) w (h i (by simp))
  obtain⟨r',q1,q2⟩:=y8e w d is fun j hj=>h j (by simp[hj])
  simp only[Op.eqItems,Sem.run_bind,p1,p2,p3,Result.andThen_ok]
  cases r with
  |false=>exact⟨false,by simp,by simp;intro h;exact absurd (hiff.2 h) (by simp)⟩
  |true=>exact⟨r',by simpa using q1,by rw[q2];simp[hiff.1 rfl]⟩
theorem v6t {t e:TypeId}{n c:Nat}{i:TypeInfo}{xs ys:Array Value}(xo yo:Operand)(w:World)(hu:P.underlying t=some (.array n e))(hi:P.info? e=some i)(hc:P.cellsOf e=c)(hg:P.eqGuardType P.depth t=false)
 (h:∀ i∈List.range n,v1b P e xs[i*c]? ys[i*c]?=true):∃ r,(q5f .eql t xo yo (.agg xs) (.agg ys)).run P w=.ok (.bool r) w∧(r=true↔∀ i∈List.range n,xs[i*c]?=ys[i*c]?):=by
 obtain⟨r,h1,h2⟩:=y8e w 9998 (List.range n) h
 refine⟨r,?_,h2⟩
 unfold q5f
 rw[Sem.run_bind,run_eqGuard_agg w .eql t xo yo _ _ hg,Result.andThen_ok,run_eql_struct]
 rw[show (10000:Nat)=9999+1 from rfl,run_equalIn_array w 9999 _ _ hu hi,hc,h1]
 rfl
end Go.Proofs.YtinfbclgkghgaaaGreat.AL
namespace Go.Proofs.YtinfbclgkghgaaaGreat.AL
open Go Go.Proofs Go.RowKit
abbrev m4 (a b c d:UInt8):List Value:=[.int .u8 a.toNat,.int .u8 b.toNat,.int .u8 c.toNat,.int .u8 d.toNat]
set_option maxRecDepth 100000
theorem u8h:Tryz.prog.underlying x4w=some (.array 4 z4):=by kernel_rfl
theorem u8i:Tryz.prog.cellsOf z4=1:=by kernel_rfl
theorem u8j:Tryz.prog.eqGuardType Tryz.prog.depth x4w=false:=by kernel_rfl
theorem v9r:Tryz.prog.underlying z4=some (.int .u8):=by kernel_rfl
theorem u8k:∃ i,Tryz.prog.info? z4=some i:=info_of_underlying v9r
theorem u8m (xo yo:Operand)(a b c d a' b' c' d':UInt8)(w:World):(q5f .eql x4w xo yo (.agg (m4 a b c d).toArray) (.agg (m4 a' b' c' d').toArray)).run Tryz.prog w=.ok (.bool (decide (a=a'∧b=b'∧c=c'∧d=d'))) w:=by
 obtain⟨i,hi⟩:=u8k
 have fit:∀ x y:Int,v1b Tryz.prog z4 (some (.int .u8 x)) (some (.int .u8 y))=true:=fun x y=>by
  unfold v1b;rw[v9r];rfl
 obtain⟨r,h1,h2⟩:=v6t (n:=4) (xs:=(m4 a b c d).toArray) (ys:=(m4 a' b' c' d').toArray) xo yo w u8h hi u8i u8j (by
  intro i hi
  have:i=0∨i=1∨i=2∨i=3:=by have:=List.mem_range.1 hi;omega
  rcases this with rfl|rfl|rfl|rfl
  ·exact fit a.toNat a'.toNat
  ·exact fit b.toNat b'.toNat
  ·exact fit c.toNat c'.toNat
  ·exact fit d.toNat d'.toNat)
 rw[h1]
 have e:∀ x y:UInt8,(some (Value.int .u8 (x.toNat:Int))=some (Value.int .u8 (y.toNat:Int)))↔x=y:=fun x y=>by
  constructor
  ·intro h
   have h:(x.toNat:Int)=y.toNat:=by injection h with h;injection h
   exact UInt8.toNat_inj.mp (by omega)
  ·rintro rfl;rfl
 have:r=decide (a=a'∧b=b'∧c=c'∧d=d'):=by
  have h3:r=true↔(a=a'∧b=b'∧c=c'∧d=d'):=by
   rw[h2]
   constructor
   ·intro h
    exact⟨(e a a').1 (h 0 (by decide)),(e b b').1 (h 1 (by decide)),(e c c').1 (h 2 (by decide)),(e d d').1 (h 3 (by decide))⟩
   ·rintro⟨rfl,rfl,rfl,rfl⟩ i _;rfl
  cases r with
  |true=>rw[decide_eq_true (h3.1 rfl)]
  |false=>rw[decide_eq_false (fun e=>by have:=h3.2 e;cases this)]
 rw[this]
end Go.Proofs.YtinfbclgkghgaaaGreat.AL
namespace Go.Proofs.YtinfbclgkghgaaaGreat.AL
open Go Go.Proofs
theorem z2n {vol:Int}{g:GeoV}(h:q6k vol g=true):g.may=true∧g.w≤16:=by
 unfold q6k at h
 rw[Bool.and_eq_true,Bool.and_eq_true,Bool.not_eq_true',decide_eq_false_iff_not]at h
 exact⟨h.1,by omega⟩
end Go.Proofs.YtinfbclgkghgaaaGreat.AL
namespace Go.Proofs.YtinfbclgkghgaaaGreat.AL
open Go Go.Proofs Go.Proofs.YtinfbclgkghgaaaGreat.AL.Crc
set_option maxHeartbeats 1000000 in
set_option maxRecDepth 20000 in
theorem w1i (g:GeoV)(area stripe:Int):AF Tryz.prog y8r [g.av,i64 area,i64 stripe] [] (Q0 (.tup [i64 (V1 g area stripe).1,i64 (V1 g area stripe).2]) []):=by
 refine AF.mono (R:=fun r H'=>∃ z,z=V1 g area stripe∧r=.tup [i64 z.1,i64 z.2]∧H'=[]) ?_ (by rintro r H' ⟨z,rfl,rfl,rfl⟩;exact⟨rfl,rfl⟩)
 have wm:=q6m g
 refine u9 hT y8s rfl rfl y8t rfl ?_
 refine q8 (q7 hT ?_)
 refine Q8 (Q6 0 g.pv rfl rfl) ?_
 refine q8 (q7 hT ?_)
 refine x8 (u5 wm _ rfl rfl) ?_
 refine y8 ⟨⟨48,[(1,i64 area),(2,i64 stripe),(3,.p (.box g.pv))]⟩,[]⟩ (X9 g area stripe) ?_ (fun hok=>?_)
 ·refine w6 (fun st=>∃ b,(b=true→¬ X9 g area stripe)∧(b=false→X9 g area stripe)∧st=⟨⟨48,[(1,i64 area),(2,i64 stripe),(3,.p (.box g.pv)),(30,bl b)]⟩,[]⟩) (q7 hT ?_) ?_
  ·unfold X9
   refine x7 (fun h=>?_) (fun h=>?_)
   ·have h:(!g.may)=true:=h
    rw[Bool.not_eq_true']at h
    exact⟨_,q9 [] [1,2,3,30] rfl,true,fun _ e=>(by rw[h]at e;exact absurd e.1 (by decide)),fun e=>(by cases e),rfl⟩
   have h0:g.may=true:=by
    have h:(!g.may)=false:=h
    rwa [Bool.not_eq_false']at h
   refine x7 (fun h=>?_) (fun h=>?_)
   ·have h1:=of_decide_eq_true (show decide (area<0)=true from h)
    exact⟨_,q9 [] [1,2,3,30] rfl,true,fun _ e=>by omega,fun e=>(by cases e),rfl⟩
   have h1:=of_decide_eq_false (show decide (area<0)=false from h)
   refine x7 (fun h=>?_) (fun h=>?_)
   ·have h2:=of_decide_eq_true (show decide (area > 1)=true from h)
    exact⟨_,q9 [] [1,2,3,30] rfl,true,fun _ e=>by omega,fun e=>(by cases e),rfl⟩
   have h2:=of_decide_eq_false (show decide (area > 1)=false from h)
   refine x7 (fun h=>?_) (fun h=>?_)
   ·have h3:=of_decide_eq_true (show decide (stripe<0)=true from h)
    exact⟨_,q9 [] [1,2,3,30] rfl,true,fun _ e=>by omega,fun e=>(by cases e),rfl⟩
   have h3:=of_decide_eq_false (show decide (stripe<0)=false from h)
   refine⟨_,q9 [] [1,2,3,30] rfl,decide (stripe≥g.s),fun e=>?_,fun e=>?_,rfl⟩
   ·have:=of_decide_eq_true e
    omega
   ·have:=of_decide_eq_false e
    exact⟨h0,by omega,by omega,by omega,by omega⟩
  ·rintro _ ⟨b,hb1,hb2,rfl⟩
   refine z6 (x7 (fun h=>?_) (fun h=>?_))
   ·refine q8 (q7 hT ?_)
    refine x6 ?_
    exact y9 [] ⟨(0,1),(q4g (hb1 h)).symm,rfl,rfl⟩ rfl
   ·exact z9 ⟨q9 [] [1,2,3] rfl,hb2 h⟩
 have hz:=q0t hok
 have hAr:=w6q hok.1 hok.2.1 hok.2.2.1 hok.2.2.2.1 hok.2.2.2.2
 obtain⟨hm,a0,a1,s0,s1⟩:=hok
 obtain⟨h1,h2,h3,h4,h5,h6,h7,h8⟩:=V0 (W9 hm)
 have e1:0≤area*g.s∧area*g.s≤g.s:=by
  rcases (show area=0∨area=1 by omega) with rfl|rfl <;> omega
 have hdef:g.at_ area stripe=4+2*g.w+(area*g.s+stripe)*(g.k+g.m):=rfl
 have hmu:=Int.mul_le_mul (show area*g.s+stripe≤64 by omega) (show g.k+g.m≤24 by omega) (by omega) (by omega)
 have hm0:0≤(area*g.s+stripe)*(g.k+g.m):=Int.mul_nonneg (by omega) (by omega)
 have hw:IntKind.i64.wrap (IntKind.i64.wrap (4+IntKind.i64.wrap (2*g.w))+IntKind.i64.wrap (IntKind.i64.wrap (IntKind.i64.wrap (area*g.s)+stripe)*IntKind.i64.wrap (g.k+g.m)))=g.at_ area stripe:=by
  rw[x9 (2*g.w) (by omega) (by omega),x9 (4+2*g.w) (by omega) (by omega),x9 (area*g.s) (by omega) (by omega),x9 (area*g.s+stripe) (by omega) (by omega),x9 (g.k+g.m) (by omega) (by omega),x9 ((area*g.s+stripe)*(g.k+g.m)) (by omega) (by omega),x9 _ (by omega) (by omega)]
  exact hdef.symm
 rw[← hw]at hz
 clear hdef hmu hm0 hAr e1
 refine q8 (q7 hT ?_)
 refine x6 ?_
 exact y9 [] ⟨_,hz.symm,rfl,rfl⟩ rfl
end Go.Proofs.YtinfbclgkghgaaaGreat.AL
namespace Go.Proofs.YtinfbclgkghgaaaGreat.AL
open Go Go.Proofs Go.Proofs.YtinfbclgkghgaaaGreat.AL.Crc
theorem u8n {l:List Bool}{i:Nat}{c:Bool}(h:l[i]?=some c):(kx l)[i]?=some [.raw (.bool c)]:=by rw[kx,List.getElem?_map,h];rfl
def x5x (hh:List Bool)(m n S:Nat):Bool:=(List.range S).any fun s=>decide (m<q1s hh s n n)
theorem v1c (hh:List Bool)(m n S:Nat):x5x hh m n (S+1)=(x5x hh m n S||decide (m<q1s hh S n n)):=by
 unfold x5x;rw[List.range_succ,List.any_append,List.any_cons,List.any_nil,Bool.or_false]
set_option maxHeartbeats 8000000 in
set_option maxRecDepth 20000 in
theorem v1d (g:GeoV)(area:Int)(b:y7)(hh:List Bool)(f:Flt):AF Tryz.prog z8y [g.av,i64 area,bA b,.p (.sl 1 (kx hh)),f.av] [] (Q0 (bl true) []):=by
 refine AF.mono (R:=fun r H'=>∃ z,z=true∧r=bl z∧H'=[]) ?_ (by rintro r H' ⟨b,rfl,rfl,rfl⟩;exact⟨rfl,rfl⟩)
 have wsm:=q8g g
 have hbl:=u6 b
 generalize hsm:z0s g=sm at wsm
 refine u9 hT z8z rfl rfl z9a rfl ?_
 refine y8 ⟨⟨185,[(1,i64 area),(2,bA b),(3,.p (.sl 1 (kx hh))),(5,.p (.box g.pv)),(9,.p (.box f.pv))]⟩,[]⟩ True (q7 hT ?_) (fun _=>?_)
 ·exact⟨Wk.trans (Q6 0 g.pv rfl rfl) (Wk.trans (Q6 1 f.pv rfl rfl) (q9 [] [1,2,3,5,9] rfl)),trivial⟩
 refine q8 (q7 hT ?_)
 refine x8 (u5 q8h _ rfl rfl) ?_
 refine q8 (q7 hT ?_)
 refine x8 (u5 wsm _ rfl rfl) ?_
 cases hb:q6k 7 g with
 |false=>
  refine q8 (q7 hT ?_)
  refine x8 (u5 (q7j 7 g hb) _ rfl rfl) ?_
  cases sm with
  |false=>
   refine q8 (q8 (q7 hT ?_))
   refine z6 ?_
   refine q8 (q7 hT ?_)
   refine x6 ?_
   exact y9 [] ⟨true,rfl,rfl,rfl⟩ rfl
  |true=>
   refine q8 (q8 (q7 hT ?_))
   refine z6 ?_
   refine q8 (q7 hT ?_)
   refine x6 ?_
   exact y9 [] ⟨true,rfl,rfl,rfl⟩ rfl
 |true=>
 cases sm with
 |false=>
  refine q8 (q7 hT ?_)
  refine x8 (q2d 7 g hb) ?_
  refine q8 (q8 (q7 hT ?_))
  refine z6 ?_
  refine q8 (q7 hT ?_)
  refine x6 ?_
  exact y9 [] ⟨true,rfl,rfl,rfl⟩ rfl
 |true=>
 refine q8 (q7 hT ?_)
 refine x8 (q2d 7 g hb) ?_
 obtain⟨hg,_⟩:=z2n hb
 obtain⟨c0,_⟩:=x5s 7 (by decide +kernel) g hg
 generalize q5b 7 g=D0 at c0
 refine y8 ⟨⟨185,[(1,i64 area),(2,bA b),(3,.p (.sl 1 (kx hh))),(5,.p (.box g.pv)),(9,.p (.box f.pv)),(13,.ref 0 0)]⟩,Z5 D0⟩ ((0≤area∧area≤1)∧(1≤f.kind∧f.kind≤3)∧(0≤f.off∧f.off≤252)∧chd f.m 4=true) (q8 (q7 hT ?_)) ?_
 ·refine x7 (fun h=>?_) (fun h=>?_)
  ·refine z6 ?_
   refine q8 (q7 hT ?_)
   refine x6 ?_
   exact y9 [] ⟨true,rfl,rfl,rfl⟩ rfl
  have h1:=of_decide_eq_false (show decide (area<0)=false from h)
  refine x7 (fun h=>?_) (fun h=>?_)
  ·refine z6 ?_
   refine q8 (q7 hT ?_)
   refine x6 ?_
   exact y9 [] ⟨true,rfl,rfl,rfl⟩ rfl
  have h2:=of_decide_eq_false (show decide (area > 1)=false from h)
  refine x7 (fun h=>?_) (fun h=>?_)
  ·refine z6 ?_
   refine q8 (q7 hT ?_)
   refine x6 ?_
   exact y9 [] ⟨true,rfl,rfl,rfl⟩ rfl
  have h3:=of_decide_eq_false (show decide (f.kind<1)=false from h)
  refine x7 (fun h=>?_) (fun h=>?_)
  ·refine z6 ?_
   refine q8 (q7 hT ?_)
   refine x6 ?_
   exact y9 [] ⟨true,rfl,rfl,rfl⟩ rfl
  have h4:=of_decide_eq_false (show decide (f.kind > 3)=false from h)
  refine x7 (fun h=>?_) (fun h=>?_)
  ·refine z6 ?_
   refine q8 (q7 hT ?_)
   refine x6 ?_
   exact y9 [] ⟨true,rfl,rfl,rfl⟩ rfl
  have h5:=of_decide_eq_false (show decide (f.off<0)=false from h)
  refine x7 (fun h=>?_) (fun h=>?_)
  ·refine z6 ?_
   refine q8 (q7 hT ?_)
   refine x6 ?_
   exact y9 [] ⟨true,rfl,rfl,rfl⟩ rfl
  have h6:=of_decide_eq_false (show decide (f.off > 252)=false from h)
  refine⟨_,fun w=>u8m _ _ f.m0 f.m1 f.m2 f.m3 0 0 0 0 w,rfl,?_⟩
  refine z6 (x7 (fun h=>?_) (fun h=>?_))
  ·refine q8 (q7 hT ?_)
   refine x6 ?_
   exact y9 [] ⟨true,rfl,rfl,rfl⟩ rfl
  ·have h:=of_decide_eq_false (show decide (f.m0=0∧f.m1=0∧f.m2=0∧f.m3=0)=false from h)
   refine z9 ⟨q9 [0,1,2] [1,2,3,5,9,13] rfl,⟨by omega,by omega⟩,⟨by omega,by omega⟩,⟨by omega,by omega⟩,?_⟩
   cases hc:chd f.m 4 with
   |true=>rfl
   |false=>exact absurd (v6n hc) h
 rintro⟨⟨a0,a1⟩,⟨k1,k3⟩,⟨o0,o1⟩,hmask⟩
 obtain⟨_,hs3,hk4,hm3⟩:=y8d hsm
 obtain⟨h1,h2,h3,h4,h5,h6,h7,h8⟩:=V0 (W9 hg)
 obtain⟨S,hS⟩:∃ n:Nat,g.s=n:=⟨g.s.toNat,by omega⟩
 obtain⟨k,hk⟩:∃ n:Nat,g.k=n:=⟨g.k.toNat,by omega⟩
 obtain⟨m,hm⟩:∃ n:Nat,g.m=n:=⟨g.m.toNat,by omega⟩
 have hG:SnapG 7 g area 2 5 k m S:=⟨hg,hk,hm,hS,a0,a1,by decide +kernel⟩
 have hSk:S*k≤3*4:=Nat.mul_le_mul (by omega) (by omega)
 have hskI:g.s*g.k=((S*k:Nat):Int):=by rw[hS,hk];simp
 have hroomW:IntKind.i64.wrap (IntKind.i64.wrap (g.s*g.k)*228)=((228*(S*k):Nat):Int):=by
  rw[hskI,x9 ((S*k:Nat):Int) (by omega) (by omega),x9 _ (by omega) (by omega)];omega
 refine y8 ⟨⟨185,[(1,i64 area),(2,bA b),(3,.p (.sl 1 (kx hh))),(5,.p (.box g.pv)),(9,.p (.box f.pv)),(13,.ref 0 0)]⟩,Z5 D0⟩ (b.length≤228*(S*k)) (q8 (q7 hT ?_)) (fun hb=>?_)
 ·refine z6 (x7 (fun h=>?_) (fun h=>?_))
  ·refine q8 (q7 hT ?_)
   refine x6 ?_
   exact y9 [] ⟨true,rfl,rfl,rfl⟩ rfl
  ·have h:=of_decide_eq_false (show decide ((((bx b).length:Nat):Int) > IntKind.i64.wrap (IntKind.i64.wrap (g.s*g.k)*228))=false from h)
   rw[hroomW]at h
   exact z9 ⟨q9 [0,1,2] [1,2,3,5,9,13] rfl,by omega⟩
 clear hroomW hskI hsm wsm
 have hbb:b.length≤1000000:=by omega
 have hsecs:=hG.fits
 have wW:=q4z D0 7 g area 2 5 b hk4 hm3 hbb g.secs c0.ok (by omega)
 obtain⟨E,e1,c1,hW,_⟩:=q8f hG hb c0
 rw[e1]at wW
 clear e1
 have hL:=x2i hG hb c1 hW k1 k3 o0 o1 (fun _=>hmask) hh
 obtain⟨n,hn⟩:∃ n,n=k+m:=⟨_,rfl⟩
 rw[← hn]at hL c1
 have hHP:∀ t,t≤S*n→(q1r f (g.base area) hh E t).Ok 1000000:=fun t ht=>((y3r c1 k1 k3 o0 (by omega) (base:=g.base area) hh t (by rw[hn]at ht;omega)).1.ok).mono (by
  have hSn:S*n≤3*7:=Nat.mul_le_mul (by omega) (by omega)
  omega)
 have hSn:S*n≤3*7:=Nat.mul_le_mul (by omega) (by omega)
 have hwn:IntKind.i64.wrap (g.k+g.m)=(n:Int):=by rw[x9 _ (by omega) (by omega)];omega
 have hkl:=y6c hh
 clear hW c0
 refine y8 ⟨⟨185,[(1,i64 area),(2,bA b),(3,.p (.sl 1 (kx hh))),(5,.p (.box g.pv)),(9,.p (.box f.pv)),(13,.ref 0 0),(14,i64 0)]⟩,Z5 E⟩ True (q7 hT ?_) (fun _=>?_)
 ·refine x8 (Q1 [0,1,2] wW rfl rfl rfl) ?_
  exact⟨q9 [0,3,4] [1,2,3,5,9,13,14] rfl,trivial⟩
 refine q8 (q7 hT ?_)
 refine w6 (fun st=>∃ F e,F=q1r f (g.base area) hh E (S*n)∧e=(!x5x hh m n S)∧st=⟨⟨185,[(1,i64 area),(2,bA b),(5,.p (.box g.pv)),(13,.ref 0 0),(14,i64 0),(15,bl e)]⟩,Z5 F⟩) (q8 (q7 hT ?_)) ?_
 ·refine z7 ?_
  refine w7 (fun c st=>∃ (s:Nat) (js:Int) (F:Dev) (e:Bool),c+s=S∧js=s∧F=q1r f (g.base area) hh E (s*n)∧e=(!x5x hh m n s)∧st=⟨⟨185,[(1,i64 area),(2,bA b),(3,.p (.sl 1 (kx hh))),(5,.p (.box g.pv)),(9,.p (.box f.pv)),(13,.ref 0 0),(14,i64 0),(15,bl e),(16,i64 js)]⟩,Z5 F⟩) S ⟨⟨185,_⟩,_⟩ (q9 [0,1,2] [1,2,3,5,9,13,14,15,16] rfl) ⟨0,0,E,true,by omega,rfl,by rw[Nat.zero_mul];rfl,rfl,rfl⟩ ?_
  rintro c st ⟨s,js,F,e,hcs,hjs,hF,he,rfl⟩
  refine q8 (q8 (q7 hT ?_))
  refine z6 (x7 (fun h=>?_) (fun h=>?_))
  ·have h:=of_decide_eq_true (show decide (js<g.s)=true from h)
   have hsS:s<S:=by omega
   refine z9 ?_
   have wF:=w1i g area js
   rw[q0t ⟨hg,a0,a1,by omega,by omega⟩,hjs,hG.at_ s,← hjs,← hn]at wF
   have hfits:g.base area+S*n≤4096:=by rw[hn];omega
   have hsn:s*n+n≤S*n:=by rw[← Nat.succ_mul];exact Nat.mul_le_mul_right n hsS
   refine w6 (fun st=>∃ F e,F=q1r f (g.base area) hh E ((s+1)*n)∧e=(!x5x hh m n (s+1))∧st=⟨⟨185,[(1,i64 area),(2,bA b),(3,.p (.sl 1 (kx hh))),(5,.p (.box g.pv)),(9,.p (.box f.pv)),(13,.ref 0 0),(14,i64 0),(15,bl e),(16,i64 js)]⟩,Z5 F⟩) (z7 (q8 (q7 hT ?_))) ?_
   ·refine x8 (u5 wF _ rfl rfl) ?_
    refine q8 (q7 hT ?_)
    refine w6 (fun st=>∃ (F:Dev) (lo:Int),F=q1r f (g.base area) hh E ((s+1)*n)∧lo=q1s hh s n n∧st=⟨⟨185,[(1,i64 area),(2,bA b),(3,.p (.sl 1 (kx hh))),(5,.p (.box g.pv)),(9,.p (.box f.pv)),(13,.ref 0 0),(14,i64 0),(15,bl e),(16,i64 js),(19,i64 lo)]⟩,Z5 F⟩) (q8 (q7 hT ?_)) ?_
    ·refine z7 ?_
     refine w7 (fun c st=>∃ (i:Nat) (ji:Int) (F:Dev) (lo:Int),c+i=n∧ji=i∧F=q1r f (g.base area) hh E (s*n+i)∧lo=q1s hh s n i∧st=⟨⟨185,[(1,i64 area),(2,bA b),(3,.p (.sl 1 (kx hh))),(5,.p (.box g.pv)),(9,.p (.box f.pv)),(13,.ref 0 0),(14,i64 0),(15,bl e),(16,i64 js),(17,i64 ((g.base area+s*n:Nat):Int)),(19,i64 lo),(20,i64 ji)]⟩,Z5 F⟩) n ⟨⟨185,_⟩,_⟩ (q9 [0,1,2] [1,2,3,5,9,13,14,15,16,17,19,20] rfl) ⟨0,0,F,0,by omega,rfl,hF,rfl,rfl⟩ ?_
     clear wF hF
     rintro c st ⟨i,ji,F,lo,hci,hji,hF,hlo,rfl⟩
     refine q8 (q8 (q7 hT ?_))
     refine z6 (x7 (fun h=>?_) (fun h=>?_))
     ·have h:=of_decide_eq_true (show decide (ji<IntKind.i64.wrap (g.k+g.m))=true from h)
      rw[hwn]at h
      have hi:i<n:=by omega
      refine z9 ?_
      have hFo:F.Ok 1000000:=by rw[hF];exact hHP _ (by omega)
      have hlol:=z8d hh s n i
      have hidx:IntKind.i64.wrap (IntKind.i64.wrap (js*IntKind.i64.wrap (g.k+g.m))+ji)=((s*n+i:Nat):Int):=by
       rw[hwn,hjs,show (s:Int)*(n:Int)=((s*n:Nat):Int) by simp,x9 ((s*n:Nat):Int) (by omega) (by omega),x9 _ (by omega) (by omega),hji];omega
      have hst:q1r f (g.base area) hh E (s*n+i+1)=match hh.getD (s*n+i) false with|true=>(F.fault (flA f ((g.base area+(s*n+i):Nat):Int))).2|false=>F:=by rw[hF];rfl
      have hlos:(q1s hh s n (i+1):Int)=lo+(match hh.getD (s*n+i) false with|true=>1|false=>0:Nat):=by
       rw[hlo,show q1s hh s n (i+1)=q1s hh s n i+(match hh.getD (s*n+i) false with|true=>1|false=>0) from rfl,Int.natCast_add]
      refine w6 (fun st=>∃ F lo,F=q1r f (g.base area) hh E (s*n+i+1)∧lo=(q1s hh s n (i+1):Int)∧st=⟨⟨185,[(1,i64 area),(2,bA b),(3,.p (.sl 1 (kx hh))),(5,.p (.box g.pv)),(9,.p (.box f.pv)),(13,.ref 0 0),(14,i64 0),(15,bl e),(16,i64 js),(17,i64 ((g.base area+s*n:Nat):Int)),(19,i64 lo),(20,i64 ji)]⟩,Z5 F⟩) (z7 ?_) ?_
      ·refine w6 (fun st=>∃ t:Int,t=((s*n+i:Nat):Int)∧st=⟨⟨185,[(1,i64 area),(2,bA b),(3,.p (.sl 1 (kx hh))),(5,.p (.box g.pv)),(9,.p (.box f.pv)),(13,.ref 0 0),(14,i64 0),(15,bl e),(16,i64 js),(17,i64 ((g.base area+s*n:Nat):Int)),(19,i64 lo),(20,i64 ji),(21,i64 t)]⟩,Z5 F⟩) (q7 hT ?_) ?_
       ·exact⟨_,q9 [0,1,2] [1,2,3,5,9,13,14,15,16,17,19,20,21] rfl,_,hidx,rfl⟩
       rintro _ ⟨t,ht,rfl⟩
       refine w6 (fun st=>∃ v,v=hh.getD (s*n+i) false∧st=⟨⟨185,[(1,i64 area),(2,bA b),(3,.p (.sl 1 (kx hh))),(5,.p (.box g.pv)),(9,.p (.box f.pv)),(13,.ref 0 0),(14,i64 0),(15,bl e),(16,i64 js),(17,i64 ((g.base area+s*n:Nat):Int)),(19,i64 lo),(20,i64 ji),(129,bl v)]⟩,Z5 F⟩) (q7 hT ?_) ?_
       ·refine x7 (fun h=>?_) (fun h=>?_)
        ·have h:=of_decide_eq_true (show decide (t<(((kx hh).length:Nat):Int))=true from h)
         have hx:=List.getElem?_eq_getElem (show s*n+i<hh.length by omega)
         generalize hh[s*n+i]=x at hx
         have hxp:(kx hh)[t.toNat]?=some [.raw (.bool x)]:=by rw[ht,Int.toNat_natCast];exact u8n hx
         refine⟨by omega,u7 hxp ?_⟩
         exact⟨_,q9 [0,1,2] [1,2,3,5,9,13,14,15,16,17,19,20,129] rfl,x,by rw[List.getD_eq_getElem?_getD,hx];rfl,rfl⟩
        ·have h:=of_decide_eq_false (show decide (t<(((kx hh).length:Nat):Int))=false from h)
         exact⟨_,q9 [0,1,2] [1,2,3,5,9,13,14,15,16,17,19,20,129] rfl,false,by rw[List.getD_eq_getElem?_getD,List.getElem?_eq_none (by omega)];rfl,rfl⟩
       rintro _ ⟨v,hv,rfl⟩
       rw[← hv]at hst hlos
       refine z6 (x7 (fun h=>?_) (fun h=>?_))
       ·have h:v=true:=h
        rw[h]at hst hlos
        have hlos:(q1s hh s n (i+1):Int)=IntKind.i64.wrap (lo+1):=by rw[hlos,x9 _ (by omega) (by omega)];rfl
        have hat:IntKind.i64.wrap (((g.base area+s*n:Nat):Int)+ji)=((g.base area+(s*n+i):Nat):Int):=by rw[x9 _ (by omega) (by omega),hji];omega
        have hst:q1r f (g.base area) hh E (s*n+i+1)=(F.fault ⟨f.kind,IntKind.i64.wrap (((g.base area+s*n:Nat):Int)+ji),f.off,0,0,f.m0,f.m1,f.m2,f.m3⟩).2:=by rw[hat];exact hst
        have w:=y6n F ⟨f.kind,IntKind.i64.wrap (((g.base area+s*n:Nat):Int)+ji),f.off,0,0,f.m0,f.m1,f.m2,f.m3⟩ 1000000 hFo (by omega)
        generalize F.fault ⟨f.kind,IntKind.i64.wrap (((g.base area+s*n:Nat):Int)+ji),f.off,0,0,f.m0,f.m1,f.m2,f.m3⟩=Y at w hst
        obtain⟨e2,E2⟩:=Y
        have w:AFm Tryz.prog 3 q7s [.ref 0 0,.agg [i64 f.kind,i64 (IntKind.i64.wrap (((g.base area+s*n:Nat):Int)+ji)),i64 f.off,i64 0,i64 0,.p (u8 f.m0),.p (u8 f.m1),.p (u8 f.m2),.p (u8 f.m3)]] (Z5 F) (Q0 (i64 e2) (Z5 E2)):=w
        refine q8 (q7 hT ?_)
        refine q7 hT ?_
        refine x8 (Q1 [0,1,2] w rfl rfl rfl) ?_
        exact⟨_,q9 [0,1,2] [1,2,3,5,9,13,14,15,16,17,19,20] rfl,E2,_,hst.symm,hlos.symm,rfl⟩
       ·have h:v=false:=h
        rw[h]at hst hlos
        have hlos:(q1s hh s n (i+1):Int)=lo:=by rw[hlos];show lo+((0:Nat):Int)=lo;omega
        exact z9 ⟨_,q9 [0,1,2] [1,2,3,5,9,13,14,15,16,17,19,20] rfl,F,lo,hst.symm,hlos.symm,rfl⟩
      ·rintro _ ⟨F',lo',hF',hlo',rfl⟩
       refine q7 hT ?_
       exact⟨c - 1,by omega,_,q9 [0,1,2] [1,2,3,5,9,13,14,15,16,17,19,20] rfl,i+1,IntKind.i64.wrap (ji+1),F',lo',by omega,by rw[x9 _ (by omega) (by omega)];omega,hF',hlo',rfl⟩
     ·have h:=of_decide_eq_false (show decide (ji<IntKind.i64.wrap (g.k+g.m))=false from h)
      rw[hwn]at h
      have hin:i=n:=by omega
      rw[hin]at hF hlo
      refine u0 ?_
      exact⟨_,q9 [0,1,2] [1,2,3,5,9,13,14,15,16,19] rfl,F,lo,by rw[hF,Nat.succ_mul],hlo,rfl⟩
    rintro _ ⟨F',lo,hF',hlo,rfl⟩
    have hee:(!x5x hh m n (s+1))=(e&&decide (lo≤g.m)):=by
     rw[v1c,Bool.not_or,he,hlo,hm]
     congr 1
     by_cases q:m<q1s hh s n n
     ·rw[decide_eq_true q,decide_eq_false (by omega)];rfl
     ·rw[decide_eq_false q,decide_eq_true (by omega)];rfl
    refine q7 hT ?_
    refine x7 (fun h=>?_) (fun h=>?_)
    ·have h:e=true:=h
     rw[h]at hee
     exact⟨_,q9 [0,1,2] [1,2,3,5,9,13,14,15,16] rfl,F',decide (lo≤g.m),hF',hee.symm,rfl⟩
    ·have h:e=false:=h
     rw[h]at hee
     exact⟨_,q9 [0,1,2] [1,2,3,5,9,13,14,15,16] rfl,F',false,hF',hee.symm,rfl⟩
   ·rintro _ ⟨F',e',hF',he',rfl⟩
    refine q7 hT ?_
    exact⟨c - 1,by omega,_,q9 [0,1,2] [1,2,3,5,9,13,14,15,16] rfl,s+1,IntKind.i64.wrap (js+1),F',e',by omega,by rw[x9 _ (by omega) (by omega)];omega,hF',he',rfl⟩
  ·have h:=of_decide_eq_false (show decide (js<g.s)=false from h)
   have hsS:s=S:=by omega
   rw[hsS]at hF he
   refine u0 ?_
   exact⟨_,q9 [0,1,2] [1,2,5,13,14,15] rfl,F,e,hF,he,rfl⟩
 rintro _ ⟨F,e,hF,he,rfl⟩
 have hFo:F.Ok 1000000:=by rw[hF];exact hHP _ (Nat.le_refl _)
 obtain⟨E',_,_,hR⟩:=hL
 rw[← hF]at hR
 have hR:F.snapRead 7 g area 5 b.length=match (generalizing:=false) x5x hh m n S with|true=>(([],22),E')|false=>((b,0),E'):=hR
 have wR:=q5a F 7 g area 5 b.length hk4 hm3 1000000 hFo (Nat.le_refl _)
 rw[← hbl]at wR hR
 generalize hfl:x5x hh m n S=fl at hR he
 clear hF hHP hfl
 cases fl with
 |true=>
  have hR:F.snapRead 7 g area 5 ((bx b).length:Nat)=(([],22),E'):=hR
  rw[hR]at wR
  have he:e=false:=he
  refine y8 ⟨⟨185,[(14,i64 0),(15,bl false),(22,bA []),(23,i64 22)]⟩,[]⟩ True (q7 hT ?_) (fun _=>?_)
  ·refine x8 (Q1 [0,1,2] wR rfl rfl rfl) ?_
   rw[he]
   exact⟨q9 [] [14,15,22,23] rfl,trivial⟩
  refine q8 (q8 (q7 hT ?_))
  refine z6 ?_
  refine q8 (q7 hT ?_)
  refine x6 ?_
  exact y9 [] ⟨true,rfl,rfl,rfl⟩ rfl
 |false=>
  have hR:F.snapRead 7 g area 5 ((bx b).length:Nat)=((b,0),E'):=hR
  rw[hR]at wR
  have he:e=true:=he
  have wS:=z0g b b hbb
  rw[beq_self_eq_true]at wS
  refine y8 ⟨⟨185,[(2,bA b),(14,i64 0),(15,bl true),(22,bA b),(23,i64 0)]⟩,[]⟩ True (q7 hT ?_) (fun _=>?_)
  ·refine x8 (Q1 [0,1,2] wR rfl rfl rfl) ?_
   rw[he]
   exact⟨q9 [] [2,14,15,22,23] rfl,trivial⟩
  refine q8 (q8 (q7 hT ?_))
  refine z6 ?_
  refine z9 ?_
  refine q8 (q7 hT ?_)
  refine x8 (u5 wS _ rfl rfl) ?_
  refine q8 (q7 hT ?_)
  refine x6 ?_
  exact y9 [] ⟨true,rfl,rfl,rfl⟩ rfl
end Go.Proofs.YtinfbclgkghgaaaGreat.AL
namespace Go.Proofs.YtinfbclgkghgaaaGreat.AL
open Go Go.RowKit Go.ChangeShapes Go.WideShapes Go.ChangeAt Go.Deep
theorem z8e {P:Program}{f:FuncId}{args:List AV}{r:Value}{W:World}{vals:Array Value}(h:AF P f args [] (Q0 (.p (.raw r)) []))(hn:vals.size=args.length)
 (ha:∀ i u,args[i]?=some u→ARep W (·<W.heap.size) (fun _=>none) u (vals.getD i undef)):Calls P f vals W fun e W'=>e=.returned r∧Below W.heap.size W W':=by
 have hs:SimH W (·<W.heap.size) (fun _=>none) []:=⟨fun b k hb=>by simp at hb,fun b b' B hb=>by obtain⟨k,hk,_⟩:=hb;simp at hk,fun B hB=>hB,fun _ _=>rfl,fun b B hb=>by simp at hb⟩
 refine(h.2 W _ _ vals hn ha hs).mono ?_
 rintro e W' ⟨v,r',H',I',ι',rfl,⟨rfl,rfl⟩,hr,hs',hx⟩
 rw[Z0 hr]
 refine⟨rfl,⟨hx.ext.os,hx.ext.tape,hx.ext.output,hx.ext.size,fun k hk=>hx.ext.frame k hk ?_⟩⟩
 rintro⟨b,hb,_⟩
 obtain⟨k',hk',_⟩:=hb
 simp at hk'
section
variable {H:Type} {enc:TypeId × Value→H} {P:Program} {W:World} {spare:Nat→Bool} {held:Bool}
theorem y9z {n:Nat}(h:n≤maxLen):n≤9223372036854775807:=by
 have:maxLen=9223372036854775807:=by decide
 omega
theorem x2j {t e:TypeId}{v:Value}{d:DataW H}{ps:List MemPlace}{r:Reach}{b0:Nat}{ι:Nat→Option Nat}(ht:P.underlying t=some (.slice e))(hval:Value.okWide P W r b0 t v)(h:DataW.Trod enc P W 0 spare held t v d ps)
 {α:Type} [Inhabited α] (pv:α→List PV) (sz:Nat) (hsz:P.cellsOf e=sz) (h0:0<sz)
 (hel:∀ (n:Nat) (cs:List Value) (x:DataW H × List MemPlace),DataW.trod enc P W 0 spare held n e cs=some x→∃ a:α,(pv a).length=sz∧∀ (i:Nat) (u:PV),(pv a)[i]?=some u→∀ v:Value,cs[i]?=some v→PRep W (·<W.heap.size) u v) :
 ∃ l:List α,ARep W (·<W.heap.size) ι (.p (.sl sz (l.map pv))) v:=by
 classical
 obtain⟨a0,len,cap,rfl⟩:=okWide_slice ht hval
 obtain⟨fuel,hf⟩:=h
 rcases open_slice ht hf with ⟨hcs,_⟩|⟨a,len',cap',m,n,D,Pl,hcs,_,hl,hm,hmm,_,hx⟩
 ·simp[Value.cells]at hcs
  obtain⟨rfl,rfl,rfl⟩:=hcs
  exact⟨[],.p (PRep.sl sz [] none 0 (fun _ _=>undef) (by simp) (by simp) (.inl rfl) (fun j e i u h=>by simp at h))⟩
 ·simp[Value.cells]at hcs
  obtain⟨rfl,rfl,rfl⟩:=hcs
  have hlm:len≤m:=by rw[hmm];split <;> omega
  have hone:∀ i,∃ x:α,i<len→(pv x).length=sz∧(∀ k,k<sz→∃ v,W.cell? ((a.add (i*sz)).add k)=some v)∧∀ (k:Nat) (u:PV) (v:Value),(pv x)[k]?=some u→W.cell? ((a.add (i*sz)).add k)=some v→PRep W (·<W.heap.size) u v:=by
   intro i
   by_cases hi:i<len
   ·obtain⟨cs',h1,h2⟩:=hx i (by omega)
    rw[hsz]at h1
    obtain⟨x,h3,h4⟩:=hel n cs' _ h2
    obtain⟨_,hlen,hc⟩:=World.cells?_some h1
    refine⟨x,fun _=>⟨h3,fun k hk=>?_,fun k u v hu hv=>?_⟩⟩
    ·exact⟨cs'[k]'(by omega),by rw[hc k hk,List.getElem?_eq_getElem]⟩
    ·have hk:k<sz:=by rw[← h3];exact(List.getElem?_eq_some_iff.1 hu).1
     exact h4 k u hu v (by rw[← hc k hk];exact hv)
   ·exact⟨default,fun h=>absurd h hi⟩
  let g:Nat→α:=fun i=>(hone i).choose
  have hg:∀ i,i<len→(pv (g i)).length=sz∧(∀ k,k<sz→∃ v,W.cell? ((a.add (i*sz)).add k)=some v)∧∀ (k:Nat) (u:PV) (v:Value),(pv (g i))[k]?=some u→W.cell? ((a.add (i*sz)).add k)=some v→PRep W (·<W.heap.size) u v:=fun i hi=>(hone i).choose_spec hi
  clear_value g
  have hlen:(((List.range len).map g).map pv).length=len:=by simp
  have hget:∀ (j:Nat) (e:List PV),(((List.range len).map g).map pv)[j]?=some e→j<len∧e=pv (g j):=by
   intro j e hj
   have hjl:j<len:=by rw[← hlen];exact(List.getElem?_eq_some_iff.1 hj).1
   simp[hjl]at hj
   exact⟨hjl,hj.symm⟩
  refine⟨(List.range len).map g,.p ?_⟩
  have:=PRep.sl (w:=W) (I:=(·<W.heap.size)) sz (((List.range len).map g).map pv) (some a) cap (fun j i=>(W.cell? ((a.add (j*sz)).add i)).getD undef) (by omega) (by have:=y9z hm;omega) ?_ ?_
  ·rw[hlen]at this;exact this
  ··rcases Nat.eq_zero_or_pos len with hz|hz
    ·subst hz;exact .inl rfl
    ·obtain⟨v,hv⟩:=(hg 0 hz).2.1 0 h0
     obtain⟨ab,ao,asp⟩:=a
     have hspot:asp=none:=by simpa [Addr.add] using World.cell?_spot hv
     subst hspot
     refine .inr ⟨ab,ao,rfl,?_,fun j e hj=>?_⟩
     ·unfold World.cell? at hv
      split at hv
      ·rename_i hb
       have:=(Array.getElem?_eq_some_iff.1 hb).1
       simpa [Addr.add] using this
      ·simp at hv
     ·obtain⟨hjl,rfl⟩:=hget j e hj
      refine⟨(hg j hjl).1,fun i hi=>?_⟩
      obtain⟨v,hv⟩:=(hg j hjl).2.1 i hi
      have e1:(Addr.add ⟨ab,ao,none⟩ (j*sz)).add i=⟨ab,ao+j*sz+i,none⟩:=by rw[add_plain,add_plain]
      rw[e1]at hv
      rw[hv]
      show some v=some ((W.cell? _).getD undef)
      rw[e1,hv];rfl
  ·intro j e i u hj hu
   obtain⟨hjl,rfl⟩:=hget j e hj
   have hi:i<sz:=by rw[← (hg j hjl).1];exact(List.getElem?_eq_some_iff.1 hu).1
   obtain⟨v,hv⟩:=(hg j hjl).2.1 i hi
   rw[hv]
   exact(hg j hjl).2.2 i u v hu hv
end
end Go.Proofs.YtinfbclgkghgaaaGreat.AL
namespace Go.Proofs.YtinfbclgkghgaaaGreat.AL
open Go Go.RowKit Go.ChangeShapes Go.WideShapes Go.ChangeAt Go.Deep Go.Proofs
theorem v8w {W:World}{I:Nat→Prop}(k:IntKind)(n:Int):PRep W I (.raw (.int k n)) (.int k n):=.raw _ rfl
theorem v6u {W:World}{I:Nat→Prop}(b:Bool):PRep W I (.raw (.bool b)) (.bool b):=.raw _ rfl
theorem q1v {W:World}{I:Nat→Prop}{ι:Nat→Option Nat}(n:Int):ARep W I ι (i64 n) (.int .i64 n):=.p (.raw _ rfl)
section
variable {H:Type} {enc:TypeId × Value→H} {W:World} {spare:Nat→Bool} {held:Bool}
theorem w1j {n:Int}(h:(Lit.int .u8 n).wf=true):∃ b:UInt8,n=(b.toNat:Int):=by
 have h2:0≤n∧n<256:=by
  simp[Lit.wf]at h
  have h3:IntKind.u8.min=0:=rfl
  have h4:IntKind.u8.max=255:=rfl
  omega
 refine⟨UInt8.ofNat n.toNat,?_⟩
 rw[UInt8.toNat_ofNat']
 omega
theorem c3:Tryz.prog.cellsOf 3=1:=by kernel_rfl
theorem c5:Tryz.prog.cellsOf 5=1:=by kernel_rfl
theorem c23:Tryz.prog.cellsOf 23=4:=by kernel_rfl
set_option maxRecDepth 20000 in
theorem v1e (n:Nat)(cs:List Value)(x:DataW H × List MemPlace)(h:DataW.trod enc Tryz.prog W 0 spare held n 23 cs=some x):∃ g:GeoV,cs=[.int .i64 g.w,.int .i64 g.s,.int .i64 g.k,.int .i64 g.m]:=by
 obtain⟨xs,m,_,rfl,hl,hlen,hf⟩:=DataW.trod_struct Tryz.underlying23 h
 rw[c23]at hl
 have h0:=hf 0 _ rfl
 have h1:=hf 1 _ rfl
 have h2:=hf 2 _ rfl
 have h3:=hf 3 _ rfl
 match xs,hlen with
 |[y0,y1,y2,y3],_=>
  match cs,hl with
  |[v0,v1,v2,v3],_=>
   simp[c3]at h0 h1 h2 h3
   obtain⟨a0,e0,_⟩:=DataW.trod_int Tryz.underlying3 h0
   obtain⟨a1,e1,_⟩:=DataW.trod_int Tryz.underlying3 h1
   obtain⟨a2,e2,_⟩:=DataW.trod_int Tryz.underlying3 h2
   obtain⟨a3,e3,_⟩:=DataW.trod_int Tryz.underlying3 h3
   simp at e0 e1 e2 e3
   exact⟨⟨a0,a1,a2,a3⟩,by rw[e0,e1,e2,e3]⟩
set_option maxRecDepth 20000 in
theorem y3s {v:Value}{d:DataW H}{ps:List MemPlace}{r:Reach}{b0:Nat}{ι:Nat→Option Nat}
 (hval:Value.okWide Tryz.prog W r b0 23 v) (h:DataW.Trod enc Tryz.prog W 0 spare held 23 v d ps):∃ g:GeoV,ARep W (·<W.heap.size) ι g.av v:=by
 obtain⟨cs,rfl,hsz⟩:=okWide_struct Tryz.underlying23 hval
 obtain⟨n,hn⟩:=h
 obtain⟨g,hcs⟩:=v1e n _ _ hn
 have:cs=[Value.int .i64 g.w,.int .i64 g.s,.int .i64 g.k,.int .i64 g.m].toArray:=by
  cases cs;simpa [Value.cells] using hcs
 subst this
 refine⟨g,.agg _ _ rfl fun i u hu=>?_⟩
 match i,hu with
 |0,hu=>cases hu;exact q1v _
 |1,hu=>cases hu;exact q1v _
 |2,hu=>cases hu;exact q1v _
 |3,hu=>cases hu;exact q1v _
 |i+4,hu=>cases hu
theorem v8x (n:Nat)(cs:List Value)(x:DataW H × List MemPlace)(hx:DataW.trod enc Tryz.prog W 0 spare held n 5 cs=some x):∃ b:UInt8,([u8 b]:List PV).length=1∧∀ (i:Nat) (u:PV),([u8 b]:List PV)[i]?=some u→∀ v:Value,cs[i]?=some v→PRep W (·<W.heap.size) u v:=by
 obtain⟨a,e,_,w⟩:=DataW.trod_int Tryz.underlying5 hx
 obtain⟨b,rfl⟩:=w1j w
 refine⟨b,rfl,fun i u hu v hv=>?_⟩
 rw[e]at hv
 match i,hu,hv with
 |0,hu,hv=>simp at hu hv;subst hu;subst hv;exact v8w _ _
 |i+1,hu,hv=>simp at hu
set_option maxRecDepth 20000 in
theorem y0q {v:Value}{d:DataW H}{ps:List MemPlace}{r:Reach}{b0:Nat}{ι:Nat→Option Nat}
 (hval:Value.okWide Tryz.prog W r b0 24 v) (h:DataW.Trod enc Tryz.prog W 0 spare held 24 v d ps):∃ l:y7,ARep W (·<W.heap.size) ι (bA l) v:=
 x2j Tryz.underlying24 hval h (fun b:UInt8=>[u8 b]) 1 c5 (by decide) v8x
end
end Go.Proofs.YtinfbclgkghgaaaGreat.AL
namespace Go.Proofs.YtinfbclgkghgaaaGreat.AL
open Go Go.Proofs Go.Proofs.YtinfbclgkghgaaaGreat.AL.Crc
def u8p (vol:Int)(g:GeoV)(m:Int)(k:Nat):Option Pc→y7
 |none=>U4 vol (q3k g m k).toNat
 |some p=>(p.sector vol g m).1
structure SlotsP (vol:Int) (g:GeoV) (A B:Nat→Option Pc) (cs:List Cell):Prop where
 a:∀ k:Nat,(k:Int)<g.w→cs[(q3k g 0 k).toNat]?=some (q4i (u8p vol g 0 k (A k)))
 b:∀ k:Nat,(k:Int)<g.w→cs[(q3k g 1 k).toNat]?=some (q4i (u8p vol g 1 k (B k)))
def u8q (e:Int)(A:Nat→Option Pc):Prop:=∀ k p,A k=some p→p.may=true∧p.seq=(k:Int)∧p.epoch≤e
structure ChainE (vol:Int) (g:GeoV) (P:List Pc):Prop where
 may:∀ (i:Nat) (p:Pc),P[i]?=some p→p.may=true∧p.seq=(i:Int)∧p.chain=v9q vol g 0 P i
 nxt:∀ (i:Nat) (p q:Pc),P[i]?=some p→P[i+1]?=some q→p.epoch≤q.epoch∧(p.epoch=q.epoch→q.frm=p.frm)∧(p.epoch<q.epoch→q.frm=q.seq)
structure TellsE (A B:Nat→Option Pc) (P:List Pc):Prop where
 one:∀ (i:Nat) (p:Pc),P[i]?=some p→A i=some p∧∀ q,B i=some q→q=p∨q.epoch<p.epoch
 stop:∀ q,A P.length=some q∨B P.length=some q→∃ l,P.getLast?=some l∧q.epoch<l.epoch
structure TailP (T:List Pc):Prop where
 pre:T=[]∨∃ s,u8g s∧T <+: s∧T.length<s.length
structure StateP (vol:Int) (g:GeoV) (e:Int) (A B:Nat→Option Pc) (Q:List (List Pc)) (T:List Pc) (cs:List Cell):Prop where
 slots:SlotsP vol g A B cs
 ma:u8q e A
 mb:u8q e B
 chain:ChainE vol g (Q.flatten++T)
 tells:TellsE A B (Q.flatten++T)
 len:((Q.flatten++T).length:Int)≤g.w
 segs:∀ s∈Q,u8g s
 tail:TailP T
end Go.Proofs.YtinfbclgkghgaaaGreat.AL
namespace Go.Proofs.YtinfbclgkghgaaaGreat.AL
open Go Go.Proofs Go.Proofs.YtinfbclgkghgaaaGreat.AL.Crc
def v9s (A:Nat→Option Pc)(n0:Nat)(W:List Pc):Nat→Option Pc:=fun k=>if n0≤k then (match W[k - n0]? with|some p=>some p|none=>A k) else A k
def Q2d (vol:Int)(g:GeoV)(e:Int)(P0 W:List Pc):Prop:=∀ (i:Nat) (p:Pc),W[i]?=some p→p.may=true∧p.seq=((P0.length+i:Nat):Int)∧p.epoch=e∧p.frm=(P0.length:Int)∧p.chain=v9q vol g 0 (P0++W) (P0.length+i)
structure EndP (vol:Int) (g:GeoV) (e:Int) (E:Dev) (keep:List Bool) (b:Nat) (A B:Nat→Option Pc) (P0 W1 W2:List Pc):Prop where
 ok:E.Ok b
 clean:CleanP (E.crashed keep) g.secs b
 slots:SlotsP vol g (v9s A P0.length W1) (v9s B P0.length W2) (E.crashed keep).cells
 new:Q2d vol g e P0 W1
 half:W1=W2∨∃ p,W1=W2++[p]
 len:((P0.length+W1.length:Nat):Int)≤g.w
theorem EndP.mono {vol:Int}{g:GeoV}{e:Int}{E:Dev}{keep:List Bool}{b c:Nat}{A B:Nat→Option Pc}{P0 W1 W2:List Pc}(h:EndP vol g e E keep b A B P0 W1 W2)(hc:b≤c):EndP vol g e E keep c A B P0 W1 W2:=
 ⟨h.ok.mono hc,h.clean.mono hc,h.slots,h.new,h.half,h.len⟩
end Go.Proofs.YtinfbclgkghgaaaGreat.AL
namespace Go.Proofs.YtinfbclgkghgaaaGreat.AL
open Go Go.Proofs Go.Proofs.YtinfbclgkghgaaaGreat.AL.Crc
theorem StateP.still {vol:Int}{g:GeoV}{e e':Int}{A B:Nat→Option Pc}{Q:List (List Pc)}{T:List Pc}{cs0 cs:List Cell}(h:StateP vol g e A B Q T cs0)(he:e≤e')(hs:SlotsP vol g A B cs):StateP vol g e' A B Q T cs:=
 ⟨hs,fun k p hk=>by obtain⟨a,b,c⟩:=h.ma k p hk;exact⟨a,b,by omega⟩,fun k p hk=>by obtain⟨a,b,c⟩:=h.mb k p hk;exact⟨a,b,by omega⟩,h.chain,h.tells,h.len,h.segs,h.tail⟩
end Go.Proofs.YtinfbclgkghgaaaGreat.AL
namespace Go.Proofs.YtinfbclgkghgaaaGreat.AL
open Go Go.RowKit Go.ChangeShapes Go.WideShapes Go.ChangeAt Go.Deep Go.Proofs
theorem x5y {W:World}{I:Nat→Prop}{ι:Nat→Option Nat}(b:UInt8):ARep W I ι (.p (u8 b)) (.int .u8 (b.toNat:Int)):=.p (.raw _ rfl)
section
variable {H:Type} {enc:TypeId × Value→H} {W:World} {spare:Nat→Bool} {held:Bool}
instance:Inhabited Flt:=⟨⟨0,0,0,0,0,0,0,0,0⟩⟩
def Flt.vals (f:Flt):List Value:=[.int .i64 f.kind,.int .i64 f.at_,.int .i64 f.off,.int .i64 f.n,.int .i64 f.to,.int .u8 (f.m0.toNat:Int),.int .u8 (f.m1.toNat:Int),.int .u8 (f.m2.toNat:Int),.int .u8 (f.m3.toNat:Int)]
theorem c4:Tryz.prog.cellsOf 4=1:=by kernel_rfl
theorem c43:Tryz.prog.cellsOf 43=4:=by kernel_rfl
theorem c45:Tryz.prog.cellsOf 45=9:=by kernel_rfl
set_option maxRecDepth 20000 in
theorem v1f (n:Nat)(cs:List Value)(x:DataW H × List MemPlace)(h:DataW.trod enc Tryz.prog W 0 spare held n 45 cs=some x):∃ f:Flt,cs=f.vals:=by
 obtain⟨xs,m,_,rfl,hl,hlen,hf⟩:=DataW.trod_struct Tryz.underlying45 h
 rw[c45]at hl
 have h0:=hf 0 _ rfl
 have h1:=hf 1 _ rfl
 have h2:=hf 2 _ rfl
 have h3:=hf 3 _ rfl
 have h4:=hf 4 _ rfl
 have h5:=hf 5 _ rfl
 match xs,hlen with
 |[y0,y1,y2,y3,y4,y5],_=>
  match cs,hl with
  |[v0,v1,v2,v3,v4,v5,v6,v7,v8],_=>
   simp[c3,c43]at h0 h1 h2 h3 h4 h5
   obtain⟨a0,e0,_⟩:=DataW.trod_int Tryz.underlying3 h0
   obtain⟨a1,e1,_⟩:=DataW.trod_int Tryz.underlying3 h1
   obtain⟨a2,e2,_⟩:=DataW.trod_int Tryz.underlying3 h2
   obtain⟨a3,e3,_⟩:=DataW.trod_int Tryz.underlying3 h3
   obtain⟨a4,e4,_⟩:=DataW.trod_int Tryz.underlying3 h4
   obtain⟨z0,z1,z2,z3,k,_,g0,g1,g2,g3⟩:=trod_array4 Tryz.underlying43 c5 h5
   obtain⟨b0,f0,_,w0⟩:=DataW.trod_int Tryz.underlying5 g0
   obtain⟨b1,f1,_,w1⟩:=DataW.trod_int Tryz.underlying5 g1
   obtain⟨b2,f2,_,w2⟩:=DataW.trod_int Tryz.underlying5 g2
   obtain⟨b3,f3,_,w3⟩:=DataW.trod_int Tryz.underlying5 g3
   obtain⟨m0,rfl⟩:=w1j w0
   obtain⟨m1,rfl⟩:=w1j w1
   obtain⟨m2,rfl⟩:=w1j w2
   obtain⟨m3,rfl⟩:=w1j w3
   simp at e0 e1 e2 e3 e4 f0 f1 f2 f3
   exact⟨⟨a0,a1,a2,a3,a4,m0,m1,m2,m3⟩,by rw[e0,e1,e2,e3,e4,f0,f1,f2,f3];rfl⟩
set_option maxRecDepth 20000 in
theorem v8y {v:Value}{d:DataW H}{ps:List MemPlace}{r:Reach}{b0:Nat}{ι:Nat→Option Nat}
 (hval:Value.okWide Tryz.prog W r b0 45 v) (h:DataW.Trod enc Tryz.prog W 0 spare held 45 v d ps):∃ f:Flt,ARep W (·<W.heap.size) ι f.av v:=by
 obtain⟨cs,rfl,hsz⟩:=okWide_struct Tryz.underlying45 hval
 obtain⟨n,hn⟩:=h
 obtain⟨f,hcs⟩:=v1f n _ _ hn
 have:cs=f.vals.toArray:=by
  cases cs;simpa [Value.cells] using hcs
 subst this
 refine⟨f,.agg _ _ rfl fun i u hu=>?_⟩
 match i,hu with
 |0,hu=>cases hu;exact q1v _
 |1,hu=>cases hu;exact q1v _
 |2,hu=>cases hu;exact q1v _
 |3,hu=>cases hu;exact q1v _
 |4,hu=>cases hu;exact q1v _
 |5,hu=>cases hu;exact x5y _
 |6,hu=>cases hu;exact x5y _
 |7,hu=>cases hu;exact x5y _
 |8,hu=>cases hu;exact x5y _
 |i+9,hu=>cases hu
set_option maxRecDepth 20000 in
theorem x2k {v:Value}{d:DataW H}{ps:List MemPlace}{r:Reach}{b0:Nat}{ι:Nat→Option Nat}
 (hval:Value.okWide Tryz.prog W r b0 42 v) (h:DataW.Trod enc Tryz.prog W 0 spare held 42 v d ps):∃ l:List Bool,ARep W (·<W.heap.size) ι (.p (.sl 1 (kx l))) v:=
 x2j Tryz.underlying42 hval h (fun b:Bool=>[PV.raw (.bool b)]) 1 c4 (by decide) fun n cs x hx=>by
  obtain⟨q,hq,_⟩:=DataW.trod_bool Tryz.underlying4 hx
  refine⟨q,rfl,fun i u hu v hv=>?_⟩
  rw[hq]at hv
  match i,hu,hv with
  |0,hu,hv=>simp at hu hv;subst hu;subst hv;exact v6u _
  |i+1,hu,hv=>simp at hu
end
end Go.Proofs.YtinfbclgkghgaaaGreat.AL
namespace Go.Proofs.YtinfbclgkghgaaaGreat.AL
open Go Go.Proofs Go.Proofs.YtinfbclgkghgaaaGreat
theorem v8z:(mapsRowed Tryz.prog)=true:=by kernel_rfl
theorem v9a:((Tryz.prog.stops==[]))=true:=by kernel_rfl
theorem v9b:((Tryz.prog.stopKnobs==[]))=true:=by kernel_rfl
theorem w6v:((Rows.ringTellsRow.plainKeys==Tryz.prog.plainKeys))=true:=by kernel_rfl
theorem w6w:(Tryz.prog.stopsHeard)=true:=by kernel_rfl
theorem w6x:(Tryz.prog.mayEnter)=true:=by kernel_rfl
theorem w6y:((Rows.ringTellsRow.lifted==Tryz.prog.liftsFinal))=true:=by kernel_rfl
theorem w6z:((Tryz.prog.make==some Rows.ringTellsRow.make))=true:=by kernel_rfl
end Go.Proofs.YtinfbclgkghgaaaGreat.AL
namespace Go.Proofs.YtinfbclgkghgaaaGreat.AL
open Go Go.Proofs Go.Proofs.YtinfbclgkghgaaaGreat.AL.Crc
def x0a (w:Nat):Nat→List Int
 |0=>[0,0,0,0]
 |j+1=>x0a w j++(List.range w).map fun(i:Nat)=>1+(i:Int)
def y0r (w n:Nat):Nat→List Int
 |0=>x0a w 2
 |s+1=>y0r w n s++List.replicate n (1+(w:Int)+s)
theorem y8f (w:Nat):∀ j,(x0a w j).length=4+j*w
 |0=>by show 4=_;omega
 |j+1=>by unfold x0a;rw[List.length_append,y8f w j,List.length_map,List.length_range,Nat.succ_mul];omega
theorem y8g (w n:Nat):∀ s,(y0r w n s).length=4+2*w+s*n
 |0=>by unfold y0r;rw[y8f];omega
 |s+1=>by unfold y0r;rw[List.length_append,y8g w n s,List.length_replicate,Nat.add_mul s 1 n,Nat.one_mul];omega
theorem w1k (l:List Int)(n:Int):ix (l++[n])=ix l++[[.raw (.int .i64 n)]]:=by simp[ix]
theorem x5z (l:List Int):(ix l).length=l.length:=by simp[ix]
set_option maxHeartbeats 4000000 in
set_option maxRecDepth 20000 in
theorem x6a (g:GeoV)(hg:g.may=true)(w S n:Nat)(hw:g.w=w)(hS:g.s=S)(hn:g.k+g.m=n):AF Tryz.prog y4v [g.av] [] (Q0 (.msl 0 1 0 (ix (y0r w n (2*S))).length) [.row q0m 1 (ix (y0r w n (2*S)))]):=by
 have wm:=q6m g
 rw[hg]at wm
 obtain⟨h1,h2,h3,h4,h5,h6,h7,h8⟩:=V0 (W9 hg)
 have hwn:IntKind.i64.wrap (g.k+g.m)=(n:Int):=by rw[x9 _ (by omega) (by omega)];omega
 have hw2:IntKind.i64.wrap (2*g.s)=((2*S:Nat):Int):=by rw[x9 _ (by omega) (by omega)];omega
 refine u9 hT y4w rfl rfl y4x rfl ?_
 refine q8 (q7 hT ?_)
 refine Q8 (Q6 0 g.pv rfl rfl) ?_
 refine q8 (q7 hT ?_)
 refine x8 (u5 wm _ rfl rfl) ?_
 refine q8 (q8 (q7 hT ?_))
 refine z6 ?_
 refine z9 ?_
 refine w6 (fun st=>∃ X,X=x0a w 0∧st=⟨⟨54,[(1,.p (.box g.pv)),(4,.msl 0 1 0 (ix X).length)]⟩,[.row q0m 1 (ix X)]⟩) (q7 hT ?_) ?_
 ·exact⟨_,q9 [1] [1,4] rfl,[0,0,0,0],rfl,rfl⟩
 rintro _ ⟨X0,hX0,rfl⟩
 refine w6 (fun st=>∃ X,X=x0a w 2∧st=⟨⟨54,[(1,.p (.box g.pv)),(4,.msl 0 1 0 (ix X).length)]⟩,[.row q0m 1 (ix X)]⟩) (q8 (q7 hT ?_)) ?_
 ·refine z7 ?_
  refine w7 (fun c st=>∃ (j:Nat) (jj:Int) (X:List Int),c+j=2∧jj=j∧X=x0a w j∧st=⟨⟨54,[(1,.p (.box g.pv)),(4,.msl 0 1 0 (ix X).length),(5,i64 jj)]⟩,[.row q0m 1 (ix X)]⟩) 2 ⟨⟨54,_⟩,_⟩ (q9 [0] [1,4,5] rfl) ⟨0,0,X0,rfl,rfl,hX0,rfl⟩ ?_
  rintro c st ⟨j,jj,X,hcj,hjj,hX,rfl⟩
  refine q8 (q8 (q7 hT ?_))
  refine z6 (x7 (fun h=>?_) (fun h=>?_))
  ·have h:=of_decide_eq_true (show decide (jj<2)=true from h)
   refine z9 ?_
   have hml:=y8f w j
   have hjw:j*w≤2*512:=Nat.mul_le_mul (by omega) (by omega)
   refine w6 (fun st=>∃ X,X=x0a w (j+1)∧st=⟨⟨54,[(1,.p (.box g.pv)),(4,.msl 0 1 0 (ix X).length),(5,i64 jj)]⟩,[.row q0m 1 (ix X)]⟩) (z7 (q8 (q7 hT ?_))) ?_
   ·refine z7 ?_
    refine w7 (fun c st=>∃ (i:Nat) (ji:Int) (X:List Int),c+i=w∧ji=i∧X=x0a w j++((List.range w).map fun(i:Nat)=>1+(i:Int)).take i∧st=⟨⟨54,[(1,.p (.box g.pv)),(4,.msl 0 1 0 (ix X).length),(5,i64 jj),(6,i64 ji)]⟩,[.row q0m 1 (ix X)]⟩) w ⟨⟨54,_⟩,_⟩ (q9 [0] [1,4,5,6] rfl) ⟨0,0,X,by omega,rfl,by rw[List.take_zero,List.append_nil];exact hX,rfl⟩ ?_
    rintro c st ⟨i,ji,X,hci,hji,hX,rfl⟩
    refine q8 (q8 (q7 hT ?_))
    refine z6 (x7 (fun h=>?_) (fun h=>?_))
    ·have h:=of_decide_eq_true (show decide (ji<g.w)=true from h)
     have hi:i<w:=by omega
     refine z9 ?_
     have hXl:(ix X).length≤4+j*w+i:=by rw[x5z,hX,List.length_append,hml,List.length_take];omega
     have hnew:x0a w j++((List.range w).map fun(i:Nat)=>1+(i:Int)).take (i+1)=X++[IntKind.i64.wrap (1+ji)]:=by
      rw[List.take_add_one,List.getElem?_map,List.getElem?_range hi,hX,List.append_assoc,x9 _ (by omega) (by omega),hji];rfl
     refine w6 (fun st=>∃ X',X'=X++[IntKind.i64.wrap (1+ji)]∧st=⟨⟨54,[(1,.p (.box g.pv)),(4,.msl 0 1 0 (ix X').length),(5,i64 jj),(6,i64 ji)]⟩,[.row q0m 1 (ix X')]⟩) (z7 (X6 (fun k=>Nat.beq 3 k) hT ?_)) ?_
     ·refine⟨⟨rfl,rfl⟩,?_⟩
      refine⟨rfl,⟨by show ((ix X).length+1)*8≤_;omega,by show (ix X).length+1≤_;omega⟩,?_⟩
      refine⟨_,q9 [1] [1,4,5,6] rfl,_,rfl,?_⟩
      rw[w1k];rfl
     ·rintro _ ⟨X',hX',rfl⟩
      refine q7 hT ?_
      exact⟨c - 1,by omega,_,q9 [0] [1,4,5,6] rfl,i+1,IntKind.i64.wrap (ji+1),X',by omega,by rw[x9 _ (by omega) (by omega)];omega,by rw[hnew];exact hX',rfl⟩
    ·have h:=of_decide_eq_false (show decide (ji<g.w)=false from h)
     rw[List.take_of_length_le (by rw[List.length_map,List.length_range];omega)]at hX
     refine u0 ?_
     exact⟨_,q9 [0] [1,4,5] rfl,X,hX,rfl⟩
   ·rintro _ ⟨X,hX,rfl⟩
    refine q7 hT ?_
    exact⟨c - 1,by omega,_,q9 [0] [1,4,5] rfl,j+1,IntKind.i64.wrap (jj+1),X,by omega,by rw[x9 _ (by omega) (by omega)];omega,hX,rfl⟩
  ·have h:=of_decide_eq_false (show decide (jj<2)=false from h)
   rw[show j=2 by omega]at hX
   refine u0 ?_
   exact⟨_,q9 [0] [1,4] rfl,X,hX,rfl⟩
 rintro _ ⟨X1,hX1,rfl⟩
 refine w6 (fun st=>∃ X,X=y0r w n (2*S)∧st=⟨⟨54,[(4,.msl 0 1 0 (ix X).length)]⟩,[.row q0m 1 (ix X)]⟩) (q8 (q7 hT ?_)) ?_
 ·refine z7 ?_
  refine w7 (fun c st=>∃ (j:Nat) (jj:Int) (X:List Int),c+j=2*S∧jj=j∧X=y0r w n j∧st=⟨⟨54,[(1,.p (.box g.pv)),(4,.msl 0 1 0 (ix X).length),(7,i64 jj)]⟩,[.row q0m 1 (ix X)]⟩) (2*S) ⟨⟨54,_⟩,_⟩ (q9 [0] [1,4,7] rfl) ⟨0,0,X1,by omega,rfl,hX1,rfl⟩ ?_
  rintro c st ⟨j,jj,X,hcj,hjj,hX,rfl⟩
  refine q8 (q8 (q7 hT ?_))
  refine z6 (x7 (fun h=>?_) (fun h=>?_))
  ·have h:=of_decide_eq_true (show decide (jj<IntKind.i64.wrap (2*g.s))=true from h)
   rw[hw2]at h
   refine z9 ?_
   have hml:=y8g w n j
   have hjw:j*n≤64*24:=Nat.mul_le_mul (by omega) (by omega)
   refine w6 (fun st=>∃ X,X=y0r w n (j+1)∧st=⟨⟨54,[(1,.p (.box g.pv)),(4,.msl 0 1 0 (ix X).length),(7,i64 jj)]⟩,[.row q0m 1 (ix X)]⟩) (z7 (q8 (q7 hT ?_))) ?_
   ·refine z7 ?_
    refine w7 (fun c st=>∃ (i:Nat) (ji:Int) (X:List Int),c+i=n∧ji=i∧X=y0r w n j++List.replicate i (1+(w:Int)+j)∧st=⟨⟨54,[(1,.p (.box g.pv)),(4,.msl 0 1 0 (ix X).length),(7,i64 jj),(8,i64 ji)]⟩,[.row q0m 1 (ix X)]⟩) n ⟨⟨54,_⟩,_⟩ (q9 [0] [1,4,7,8] rfl) ⟨0,0,X,by omega,rfl,by rw[List.replicate_zero,List.append_nil];exact hX,rfl⟩ ?_
    rintro c st ⟨i,ji,X,hci,hji,hX,rfl⟩
    refine q8 (q8 (q7 hT ?_))
    refine z6 (x7 (fun h=>?_) (fun h=>?_))
    ·have h:=of_decide_eq_true (show decide (ji<IntKind.i64.wrap (g.k+g.m))=true from h)
     rw[hwn]at h
     refine z9 ?_
     have hXl:(ix X).length≤4+2*w+j*n+i:=by rw[x5z,hX,List.length_append,hml,List.length_replicate];omega
     have hnew:y0r w n j++List.replicate (i+1) (1+(w:Int)+j)=X++[IntKind.i64.wrap (IntKind.i64.wrap (1+g.w)+jj)]:=by
      rw[List.replicate_succ',hX,List.append_assoc,x9 (1+g.w) (by omega) (by omega),x9 _ (by omega) (by omega),hjj,hw]
     refine w6 (fun st=>∃ X',X'=X++[IntKind.i64.wrap (IntKind.i64.wrap (1+g.w)+jj)]∧st=⟨⟨54,[(1,.p (.box g.pv)),(4,.msl 0 1 0 (ix X').length),(7,i64 jj),(8,i64 ji)]⟩,[.row q0m 1 (ix X')]⟩) (z7 (X6 (fun k=>Nat.beq 6 k) hT ?_)) ?_
     ·refine⟨⟨rfl,rfl⟩,?_⟩
      refine⟨rfl,⟨by show ((ix X).length+1)*8≤_;omega,by show (ix X).length+1≤_;omega⟩,?_⟩
      refine⟨_,q9 [1] [1,4,7,8] rfl,_,rfl,?_⟩
      rw[w1k];rfl
     ·rintro _ ⟨X',hX',rfl⟩
      refine q7 hT ?_
      exact⟨c - 1,by omega,_,q9 [0] [1,4,7,8] rfl,i+1,IntKind.i64.wrap (ji+1),X',by omega,by rw[x9 _ (by omega) (by omega)];omega,by rw[hnew];exact hX',rfl⟩
    ·have h:=of_decide_eq_false (show decide (ji<IntKind.i64.wrap (g.k+g.m))=false from h)
     rw[hwn]at h
     rw[show i=n by omega]at hX
     refine u0 ?_
     exact⟨_,q9 [0] [1,4,7] rfl,X,hX,rfl⟩
   ·rintro _ ⟨X,hX,rfl⟩
    refine q7 hT ?_
    exact⟨c - 1,by omega,_,q9 [0] [1,4,7] rfl,j+1,IntKind.i64.wrap (jj+1),X,by omega,by rw[x9 _ (by omega) (by omega)];omega,hX,rfl⟩
  ·have h:=of_decide_eq_false (show decide (jj<IntKind.i64.wrap (2*g.s))=false from h)
   rw[hw2]at h
   rw[show j=2*S by omega]at hX
   refine u0 ?_
   exact⟨_,q9 [0] [4] rfl,X,hX,rfl⟩
 rintro _ ⟨X,hX,rfl⟩
 rw[hX]
 refine q8 (q7 hT ?_)
 refine x6 ?_
 exact y9 [0] ⟨rfl,rfl⟩ rfl
set_option maxHeartbeats 4000000 in
set_option maxRecDepth 20000 in
theorem w5d (g:GeoV):AF Tryz.prog z5y [g.av] [] (Q0 (bl true) []):=by
 refine AF.mono (R:=fun r H'=>∃ z,z=true∧r=bl z∧H'=[]) ?_ (by rintro r H' ⟨b,rfl,rfl,rfl⟩;exact⟨rfl,rfl⟩)
 have wsm:=q8g g
 have wm:=q6m g
 refine u9 hT z5z rfl rfl z6a rfl ?_
 refine q8 (q7 hT ?_)
 refine Q8 (Q6 0 g.pv rfl rfl) ?_
 refine q8 (q7 hT ?_)
 refine x8 (u5 q8h _ rfl rfl) ?_
 refine q8 (q7 hT ?_)
 refine x8 (u5 wsm _ rfl rfl) ?_
 refine q8 (q7 hT ?_)
 refine x8 (u5 wm _ rfl rfl) ?_
 refine y8 ⟨⟨67,[(1,.p (.box g.pv))]⟩,[]⟩ (g.may=true) (q8 (q7 hT ?_)) (fun hg=>?_)
 ·refine x7 (fun h=>?_) (fun h=>?_)
  ·refine z6 ?_
   refine q8 (q7 hT ?_)
   refine x6 ?_
   exact y9 [] ⟨true,rfl,rfl,rfl⟩ rfl
  refine z6 (x7 (fun h=>?_) (fun h=>?_))
  ·refine q8 (q7 hT ?_)
   refine x6 ?_
   exact y9 [] ⟨true,rfl,rfl,rfl⟩ rfl
  ·have h:(!g.may)=false:=h
   rw[Bool.not_eq_false']at h
   exact z9 ⟨q9 [] [1] rfl,h⟩
 obtain⟨h1,h2,h3,h4,h5,h6,h7,h8⟩:=V0 (W9 hg)
 obtain⟨w,hw⟩:∃ n:Nat,g.w=n:=⟨g.w.toNat,by omega⟩
 obtain⟨S,hS⟩:∃ n:Nat,g.s=n:=⟨g.s.toNat,by omega⟩
 obtain⟨n,hn⟩:∃ n:Nat,g.k+g.m=n:=⟨(g.k+g.m).toNat,by omega⟩
 have wO:=x6a g hg w S n hw hS hn
 have hOl:(ix (y0r w n (2*S))).length=4+2*w+2*S*n:=by rw[x5z,y8g]
 generalize ix (y0r w n (2*S))=O at wO hOl
 have hSn:S*n≤32*24:=Nat.mul_le_mul (by omega) (by omega)
 have hat:∀ a s:Nat,a≤1→g.at_ a s=((4+2*w+(a*(S*n)+s*n):Nat):Int):=fun a s ha=>by
  unfold GeoV.at_
  rw[hw,hS,hn]
  simp only[Int.natCast_mul,Int.natCast_add]
  rw[Int.add_mul,Int.mul_assoc]
  omega
 refine w6 (fun st=>∃ la:Int,la=((4+2*w:Nat):Int)∧st=⟨⟨67,[(1,.p (.box g.pv)),(6,i64 la)]⟩,[]⟩) (q7 hT ?_) ?_
 ·exact⟨_,q9 [] [1,6] rfl,_,by rw[x9 (2*g.w) (by omega) (by omega),x9 _ (by omega) (by omega)];omega,rfl⟩
 rintro _ ⟨la0,hla0,rfl⟩
 refine w6 (fun st=>∃ la:Int,la=((4+2*w+2*(S*n):Nat):Int)∧st=⟨⟨67,[(1,.p (.box g.pv)),(6,i64 la)]⟩,[]⟩) (q8 (q7 hT ?_)) ?_
 ·refine z7 ?_
  refine w7 (fun c st=>∃ (a:Nat) (ja la:Int),c+a=2∧ja=a∧la=((4+2*w+a*(S*n):Nat):Int)∧st=⟨⟨67,[(1,.p (.box g.pv)),(6,i64 la),(7,i64 ja)]⟩,[]⟩) 2 ⟨⟨67,_⟩,_⟩ (q9 [] [1,6,7] rfl) ⟨0,0,la0,rfl,rfl,by rw[hla0,Nat.zero_mul];rfl,rfl⟩ ?_
  rintro c st ⟨a,ja,la,hca,hja,hla,rfl⟩
  refine q8 (q8 (q7 hT ?_))
  refine z6 (x7 (fun h=>?_) (fun h=>?_))
  ·have h:=of_decide_eq_true (show decide (ja<2)=true from h)
   refine z9 ?_
   have ha:a≤1:=by omega
   have haS:a*(S*n)≤S*n:=by
    rcases (show a=0∨a=1 by omega) with rfl|rfl <;> omega
   refine w6 (fun st=>∃ la:Int,la=((4+2*w+(a+1)*(S*n):Nat):Int)∧st=⟨⟨67,[(1,.p (.box g.pv)),(6,i64 la),(7,i64 ja)]⟩,[]⟩) (z7 (q8 (q7 hT ?_))) ?_
   ·refine z7 ?_
    refine w7 (fun c st=>∃ (s:Nat) (js la:Int),c+s=S∧js=s∧la=((4+2*w+(a*(S*n)+s*n):Nat):Int)∧st=⟨⟨67,[(1,.p (.box g.pv)),(6,i64 la),(7,i64 ja),(8,i64 js)]⟩,[]⟩) S ⟨⟨67,_⟩,_⟩ (q9 [] [1,6,7,8] rfl) ⟨0,0,la,by omega,rfl,by rw[hla,Nat.zero_mul];rfl,rfl⟩ ?_
    rintro c st ⟨s,js,la,hcs,hjs,hla,rfl⟩
    refine q8 (q8 (q7 hT ?_))
    refine z6 (x7 (fun h=>?_) (fun h=>?_))
    ·have h:=of_decide_eq_true (show decide (js<g.s)=true from h)
     have hsS:s<S:=by omega
     refine z9 ?_
     have wF:=q3f g ja js
     have hsn:s*n+n≤S*n:=by rw[← Nat.succ_mul];exact Nat.mul_le_mul_right n hsS
     rw[q0t ⟨hg,by omega,by omega,by omega,by omega⟩,hja,hjs,hat a s ha,← hla,← hja,← hjs]at wF
     refine w6 (fun st=>∃ la:Int,la=((4+2*w+(a*(S*n)+(s+1)*n):Nat):Int)∧st=⟨⟨67,[(1,.p (.box g.pv)),(6,i64 la),(7,i64 ja),(8,i64 js)]⟩,[]⟩) (z7 (q8 (q7 hT ?_))) ?_
     ·refine x8 (u5 wF _ rfl rfl) ?_
      refine y8 ⟨⟨67,[(1,.p (.box g.pv)),(6,i64 la),(7,i64 ja),(8,i64 js)]⟩,[]⟩ True (q8 (q7 hT ?_)) (fun _=>?_)
      ·refine z6 (x7 (fun h=>?_) (fun h=>?_))
       ·have h:(la != la)=true:=h
        simp at h
       ·exact z9 ⟨q9 [] [1,6,7,8] rfl,trivial⟩
      refine q7 hT ?_
      refine⟨_,q9 [] [1,6,7,8] rfl,_,?_,rfl⟩
      rw[x9 (la+g.k) (by omega) (by omega),x9 _ (by omega) (by omega),hla,Nat.add_mul s 1 n,Nat.one_mul]
      omega
     ·rintro _ ⟨la,hla,rfl⟩
      refine q7 hT ?_
      exact⟨c - 1,by omega,_,q9 [] [1,6,7,8] rfl,s+1,IntKind.i64.wrap (js+1),la,by omega,by rw[x9 _ (by omega) (by omega)];omega,hla,rfl⟩
    ·have h:=of_decide_eq_false (show decide (js<g.s)=false from h)
     have hsS:s=S:=by omega
     refine u0 ?_
     exact⟨_,q9 [] [1,6,7] rfl,la,by rw[hla,hsS,Nat.add_mul a 1 (S*n),Nat.one_mul],rfl⟩
   ·rintro _ ⟨la,hla,rfl⟩
    refine q7 hT ?_
    exact⟨c - 1,by omega,_,q9 [] [1,6,7] rfl,a+1,IntKind.i64.wrap (ja+1),la,by omega,by rw[x9 _ (by omega) (by omega)];omega,hla,rfl⟩
  ·have h:=of_decide_eq_false (show decide (ja<2)=false from h)
   rw[show a=2 by omega]at hla
   refine u0 ?_
   exact⟨_,q9 [] [1,6] rfl,la,hla,rfl⟩
 rintro _ ⟨la,hla,rfl⟩
 have hfin:(la==((O.length:Nat):Int))=true:=by rw[hla,hOl,Nat.mul_assoc];exact beq_self_eq_true _
 refine q8 (q7 hT ?_)
 refine x8 (q1t wO _ rfl) ?_
 refine x6 ?_
 exact y9 [] ⟨_,hfin,rfl,rfl⟩ rfl
end Go.Proofs.YtinfbclgkghgaaaGreat.AL
namespace Go.Proofs.YtinfbclgkghgaaaGreat.AL
open Go Go.Proofs
theorem v6v (D:Dev):AFm Tryz.prog 3 y1p [.ref 0 0] (Z5 D) (Q0 (i64 D.ops) (Z5 D)):=by
 refine Q9 3 hT y1q rfl rfl y1r rfl rfl ?_
 refine q8 (q7 hT ?_)
 refine q8 (q8 (q7 hT ?_))
 refine z6 ?_
 refine z9 ?_
 refine q8 (q7 hT ?_)
 refine x6 ?_
 exact y9 [0,1,2] ⟨rfl,rfl⟩ rfl
end Go.Proofs.YtinfbclgkghgaaaGreat.AL
